/- region: cut. -/
import Derived.Test.YtlhfjaagkgengaaGreatRgEZ
namespace Go.Proofs.YtlhfjaagkgengaaGreat
open Go.RowKit
set_option linter.unusedVariables false
set_option linter.unusedSimpArgs false

structure Rg3 (w : World) (b : Nat) (x y z : Int) : Prop where
  c0 : w.cell? ⟨b, 0, none⟩ = some (.int .i64 x)
  c1 : w.cell? ⟨b, 1, none⟩ = some (.int .i64 y)
  c2 : w.cell? ⟨b, 2, none⟩ = some (.int .i64 z)
theorem Rg3.new (w : World) (x y z : Int) (t : TypeId) : Rg3 (w.alloc (.cells #[.int .i64 x, .int .i64 y, .int .i64 z] t)) w.heap.size x y z := by
  have hc : ∀ k v, (#[.int .i64 x, .int .i64 y, .int .i64 z] : Array Value)[k]? = some v → (w.alloc (.cells #[.int .i64 x, .int .i64 y, .int .i64 z] t)).cell? ⟨w.heap.size, k, none⟩ = some v := fun k v hv => by
    rw [cell_of_row _ _ _ _ _ _ (heap_alloc_new w _)]; exact hv
  exact ⟨hc 0 _ rfl, hc 1 _ rfl, hc 2 _ rfl⟩
theorem Rg3.off {w w' : World} {b : Nat} {x y z : Int} {S : Nat → Prop} (h : Rg3 w b x y z) (ho : Off S w w') (hs : ¬ S b) : Rg3 w' b x y z :=
  ⟨(ho.cell (p := ⟨b, 0, none⟩) (lt_of_cell h.c0) hs).trans h.c0, (ho.cell (p := ⟨b, 1, none⟩) (lt_of_cell h.c0) hs).trans h.c1, (ho.cell (p := ⟨b, 2, none⟩) (lt_of_cell h.c0) hs).trans h.c2⟩
theorem Rg3.up {w w' : World} {b : Nat} {x y z : Int} (h : Rg3 w b x y z) (hb : Below w.heap.size w w') : Rg3 w' b x y z := h.off (S := fun _ => False) (Off.of_below hb) id
theorem FrG.nil (w : World) : FrG w w (.slice none 0 0) [] := ⟨OwG.nil _ _, Below.refl _ _⟩
theorem FrG.up {w0 w w' : World} {v : Value} {L : List Rg} (h : FrG w0 w v L) (hb : Below w.heap.size w w') : FrG w0 w' v L := ⟨h.1.up hb, h.2.trans (hb.mono h.2.size)⟩
/-- One more region. -/
theorem FrG.push {w0 w : World} {v : Value} {L : List Rg} (h : FrG w0 w v L) (x : Rg) (t : TypeId) (hlen : L.length ≤ 900000) (ty : TypeId) :
    ∃ A' c' w', (Builtin.append_ #[41, 41] ty #[v, .slice (some ⟨w.heap.size, 0, none⟩) 1 1]).run Tryz.prog (w.alloc (.cells #[.int .i64 x.lo, .int .i64 x.hi, .int .i64 x.pr] t)) = .ok (.slice A' (L.length + 1) c') w' ∧ FrG w0 w' (.slice A' (L.length + 1) c') (L ++ [x]) ∧ Off (fun k => v.ownBlock = some k) w w' := by
  have hb : Below w.heap.size w (w.alloc (.cells #[.int .i64 x.lo, .int .i64 x.hi, .int .i64 x.pr] t)) := (Below.refl _ _).alloc (Nat.le_refl _) _
  have hc : ∀ k v, (#[.int .i64 x.lo, .int .i64 x.hi, .int .i64 x.pr] : Array Value)[k]? = some v → (w.alloc (.cells #[.int .i64 x.lo, .int .i64 x.hi, .int .i64 x.pr] t)).cell? ⟨w.heap.size, k, none⟩ = some v := fun k v hv => by
    rw [cell_of_row _ _ _ _ _ _ (heap_alloc_new w _)]; exact hv
  have hrow : RgAt (w.alloc (.cells #[.int .i64 x.lo, .int .i64 x.hi, .int .i64 x.pr] t)) (some ⟨w.heap.size, 0, none⟩) [x] := ⟨fun _ => ⟨w.heap.size, 0, rfl, by simp, fun i y hy => by
    cases i with
    | zero => simp at hy; subst hy; exact ⟨hc 0 _ rfl, hc 1 _ rfl, hc 2 _ rfl⟩
    | succ i => simp at hy⟩⟩
  have hbs := hb.size
  have hob : Off (fun k => v.ownBlock = some k) w (w.alloc (.cells #[.int .i64 x.lo, .int .i64 x.hi, .int .i64 x.pr] t)) := Off.of_below hb
  generalize w.alloc (.cells #[.int .i64 x.lo, .int .i64 x.hi, .int .i64 x.pr] t) = W1 at *
  have h1 := h.up hb
  have hs := h.2.size
  obtain ⟨A', c', w', hr, ho, hof, hat⟩ := h1.1.app (M := [x]) (m := 1) (c := 1) (by omega) rfl hrow (by simp; omega) ty
  rw [List.length_append, List.length_singleton] at hr ho hat
  exact ⟨A', c', w', hr, ⟨ho, h1.2.trans (hof.below (fun k e => (h1.1.lt e).1) h1.2.size)⟩, hob.trans hof⟩
def cut1 (lo hi : Int) (r : Rg) : List Rg := (if r.lo < minI r.hi lo then [⟨r.lo, minI r.hi lo, r.pr⟩] else []) ++ (if maxI r.lo hi < r.hi then [⟨maxI r.lo hi, r.hi, r.pr⟩] else [])
def cutR (L : List Rg) (lo hi : Int) : List Rg := if hi ≤ lo then L else L.flatMap (cut1 lo hi)
theorem cut1_len (lo hi : Int) (r : Rg) : (cut1 lo hi r).length ≤ 2 := by
  unfold cut1
  split <;> split <;> simp
theorem flat_take (L : List Rg) (lo hi : Int) {j : Nat} {r : Rg} (hr : L[j]? = some r) : (L.take (j + 1)).flatMap (cut1 lo hi) = (L.take j).flatMap (cut1 lo hi) ++ cut1 lo hi r := by
  have hj := (List.getElem?_eq_some_iff.1 hr).1
  rw [List.take_add_one, hr]
  simp
theorem flat_len (lo hi : Int) : ∀ (L : List Rg), (L.flatMap (cut1 lo hi)).length ≤ 2 * L.length
  | [] => by simp
  | x :: L => by
    have h1 := flat_len lo hi L
    have h2 := cut1_len lo hi x
    simp only [List.flatMap_cons, List.length_append, List.length_cons]
    omega
set_option maxRecDepth 100000 in
set_option maxHeartbeats 8000000 in
theorem cutG_any (w : World) {A : Option Addr} (c : Nat) {L : List Rg} (hL : RgAt w A L) (hn : L.length ≤ 100000) (lo hi : Int) :
    Calls Tryz.prog 198 #[.slice A L.length c, .int .i64 lo, .int .i64 hi] w fun e w' => ∃ A' c', e = .returned (.slice A' (cutR L lo hi).length c') ∧ FrG w w' (.slice A' (cutR L lo hi).length c') (cutR L lo hi) := by
  have HL := Lib.hid hL
  clear hL
  by_cases hle : hi ≤ lo
  · have e : cutR L lo hi = L := by unfold cutR; rw [if_pos hle]
    rw [e]
    have HC := Lib.hid (cloneG_any w c HL.out hn)
    clear e
    go_enter Tryz.func198, Tryz.ntmps198
    go_wp2_with (go_at_call 78; refine HC.out.mono ?_; rintro e W1 ⟨A1, c1, rfl, how, hb1⟩; have HF := Lib.hid (show FrG w W1 (.slice A1 L.length c1) L from ⟨how, hb1⟩); clear how hb1)
    go_ret
    exact ⟨_, _, rfl, HF.out⟩
  · have e : cutR L lo hi = L.flatMap (cut1 lo hi) := by unfold cutR; rw [if_neg hle]
    rw [e]
    have hled : decide (hi ≤ lo) = false := decide_eq_false hle
    obtain ⟨R, hR⟩ : ∃ R, R = L.flatMap (cut1 lo hi) := ⟨_, rfl⟩
    rw [← hR]
    have HR := Lib.hid hR
    clear e hle hR
    go_enter Tryz.func198, Tryz.ntmps198
    go_wp2
    clear hled
    go_loopw [7, 19] (fun v i wr => ∃ (j : Nat) (A' : Option Addr) (c' : Nat), j ≤ L.length ∧ i = .int .i64 (j : Nat) ∧ v = .slice A' ((L.take j).flatMap (cut1 lo hi)).length c' ∧ FrG w wr (.slice A' ((L.take j).flatMap (cut1 lo hi)).length c') ((L.take j).flatMap (cut1 lo hi))) (fun _ i _ => L.length - (intOf i).toNat)
    case atStart => exact ⟨0, none, 0, by omega, rfl, rfl, FrG.nil w⟩
    case round =>
      obtain ⟨j, A1, c1, hj, rfl, rfl, hfr⟩ := hrel
      have HF := Lib.hid hfr
      have hlen := flat_len lo hi (L.take j)
      have hlt : (L.take j).length ≤ L.length := by simp; omega
      by_cases hjn : j < L.length
      · have hrow := HL.out.up hfr.2
        obtain ⟨g, o, hA, hg, hc⟩ := hrow.at_ (by omega)
        subst hA
        obtain ⟨r, hr⟩ : ∃ r, L[j]? = some r := ⟨_, List.getElem?_eq_getElem hjn⟩
        obtain ⟨q0, q1, q2⟩ := hc j r hr
        have hjI : (j : Int) < (L.length : Int) := by omega
        have HT := Lib.hid (flat_take L lo hi hr)
        obtain ⟨ra, rb, rp⟩ := r
        simp only at q0 q1 q2
        have HT2 : Hid ((L.take (j + 1)).flatMap (cut1 lo hi) = (L.take j).flatMap (cut1 lo hi) ++ ((if ra < minI rb lo then [⟨ra, minI rb lo, rp⟩] else []) ++ (if maxI ra hi < rb then [⟨maxI ra hi, rb, rp⟩] else []))) := HT
        obtain ⟨p1, hp1⟩ : ∃ p, p = minI rb lo := ⟨_, rfl⟩
        obtain ⟨p0, hp0⟩ : ∃ p, p = maxI ra hi := ⟨_, rfl⟩
        rw [← hp0, ← hp1] at HT2
        obtain ⟨M, hM⟩ : ∃ M, (L.take j).flatMap (cut1 lo hi) = M := ⟨_, rfl⟩
        rw [hM] at HF HT2 hlen
        rw [hM]
        obtain ⟨M1, hM1⟩ : ∃ M1 : List Rg, M1 = M ++ (if ra < p1 then [⟨ra, p1, rp⟩] else []) := ⟨_, rfl⟩
        obtain ⟨M2, hM2⟩ : ∃ M2 : List Rg, M2 = M1 ++ (if p0 < rb then [⟨p0, rb, rp⟩] else []) := ⟨_, rfl⟩
        rw [← List.append_assoc, ← hM1, ← hM2] at HT2
        have HM1 := Lib.hid hM1
        have HM2 := Lib.hid hM2
        have hm1 : M1.length ≤ 2 * L.length + 1 := by rw [hM1]; split <;> simp <;> omega
        have HLT : Hid (∀ k, (Value.slice A1 M.length c1).ownBlock = some k → k < wr.heap.size) := Lib.hid fun k e => (HF.out.1.lt e).2
        clear hM1 hM2
        unfold maxI at hp0
        unfold minI at hp1
        have HP := Lib.hid (And.intro hp0 hp1)
        clear hfr hc hr HT hp0 hp1 hM hrow
        go_upto_region 8 with (fail)
        rw [← HP.out.2]
        refine wp_forget (fun V => FrG w V (.slice A1 M.length c1) M ∧ Rg3 V wr.heap.size ra rb rp ∧ Rg3 V (wr.heap.size + 1) ra p1 rp) ?_ ?_
        · have b1 : Below wr.heap.size wr (wr.alloc (.cells #[.int .i64 ra, .int .i64 rb, .int .i64 rp] 62)) := (Below.refl _ _).alloc (Nat.le_refl _) _
          have s1 : (wr.alloc (.cells #[.int .i64 ra, .int .i64 rb, .int .i64 rp] 62)).heap.size = wr.heap.size + 1 := by simp
          have g1 := Rg3.new wr ra rb rp 62
          generalize wr.alloc (.cells #[.int .i64 ra, .int .i64 rb, .int .i64 rp] 62) = W1 at *
          have b2 : Below W1.heap.size W1 (W1.alloc (.cells #[.int .i64 ra, .int .i64 p1, .int .i64 rp] 62)) := (Below.refl _ _).alloc (Nat.le_refl _) _
          have g2 := Rg3.new W1 ra p1 rp 62
          rw [s1] at g2
          exact ⟨(HF.out.up b1).up b2, g1.up b2, g2⟩
        rintro V ⟨hf, k9, k10⟩
        obtain ⟨b9, hb9⟩ : ∃ g, wr.heap.size = g := ⟨_, rfl⟩
        have HB9 := Lib.hid hb9
        obtain ⟨b10, hb10⟩ : ∃ g, wr.heap.size + 1 = g := ⟨_, rfl⟩
        rw [hb9] at k9
        rw [hb10] at k10
        rw [hb10, hb9]
        have HFV := Lib.hid hf
        have HK9 := Lib.hid k9
        obtain ⟨x0, x1, x2⟩ := k10
        have lx := lt_of_cell x0
        clear hf k9 HF q0 q1 q2 hb9 hb10
        go_upto_if 36 with (fail)
        go_cut [7] from 36 to 40 (fun v V' => ∃ A' c', v = .slice A' M1.length c' ∧ FrG w V' (.slice A' M1.length c') M1 ∧ Rg3 V' b9 ra rb rp)
        case first =>
          by_cases h1 : ra < p1
          · obtain ⟨A2, c2, w2, hr2, hf2, hof2⟩ := HFV.out.push ⟨ra, p1, rp⟩ 62 (by omega) 41
            have hM : M1 = M ++ [⟨ra, p1, rp⟩] := by rw [HM1.out, if_pos h1]
            have hl : M1.length = M.length + 1 := by rw [hM]; simp
            rw [← hM, ← hl] at hf2
            rw [← hl] at hr2
            have HF2 := Lib.hid hf2
            have HK2 := Lib.hid (HK9.out.off hof2 (fun e => by have := HLT.out _ e; have := HB9.out; omega))
            simp only at hr2
            clear hM hl hf2 hof2
            go_wp2_with (at_builtin; go_must (refine wpList_append_run rfl (.tmp 37) (.tmp 39) 41 rfl _ _ rfl rfl hr2 ?_))
            go_meet
            exact ⟨_, _, rfl, HF2.out, HK2.out⟩
          · have hd : decide (ra < p1) = false := decide_eq_false h1
            have hM : M1 = M := by rw [HM1.out, if_neg h1, List.append_nil]
            have HX := Lib.hid hM
            clear hM
            go_wp2_with fail
            go_meet
            exact ⟨_, _, by rw [HX.out], by rw [HX.out]; exact HFV.out, HK9.out⟩
        case rest =>
        obtain ⟨A2, c2, rfl, hf, k9⟩ := hcut
        have HF2 := Lib.hid hf
        have y0 := k9.c0
        have y1 := k9.c1
        have y2 := k9.c2
        have ly := lt_of_cell y0
        clear hf k9 HFV HK9 x0 x1 x2 lx HLT HB9
        go_upto_region 11 with (fail)
        rw [← HP.out.1]
        refine wp_forget (fun V => FrG w V (.slice A2 M1.length c2) M1 ∧ Rg3 V wc.heap.size p0 rb rp) ⟨HF2.out.up ((Below.refl _ _).alloc (Nat.le_refl _) _), Rg3.new wc p0 rb rp 62⟩ ?_
        rintro V2 ⟨hf, k11⟩
        obtain ⟨b11, hb11⟩ : ∃ g, wc.heap.size = g := ⟨_, rfl⟩
        rw [hb11] at k11
        rw [hb11]
        have HF3 := Lib.hid hf
        have x0 := k11.c0
        have x1 := k11.c1
        have x2 := k11.c2
        have lx := lt_of_cell x0
        clear hf k11 HF2 y0 y1 y2 ly hb11
        by_cases h1 : p0 < rb
        · obtain ⟨A3, c3, w3, hr3, hf3, hof3⟩ := HF3.out.push ⟨p0, rb, rp⟩ 62 (by omega) 41
          have hM : M2 = M1 ++ [⟨p0, rb, rp⟩] := by rw [HM2.out, if_pos h1]
          have hl : M2.length = M1.length + 1 := by rw [hM]; simp
          rw [← hM, ← hl] at hf3
          rw [← hl] at hr3
          have HF4 := Lib.hid hf3
          simp only at hr3
          clear hM hl hf3 hof3
          go_wp2_with (at_builtin; go_must (refine wpList_append_run rfl (.tmp 55) (.tmp 57) 41 rfl _ _ rfl rfl hr3 ?_))
          go_roundw
          case rel => exact ⟨j + 1, A3, c3, by omega, by go_num, by rw [HT2.out], by rw [HT2.out]; exact HF4.out⟩
          case measure => simp [intOf]; omega
        · have hd : decide (p0 < rb) = false := decide_eq_false h1
          have hM : M2 = M1 := by rw [HM2.out, if_neg h1, List.append_nil]
          have HX := Lib.hid hM
          clear hM
          go_wp2
          go_roundw
          case rel => exact ⟨j + 1, A2, c2, by omega, by go_num, by rw [HT2.out, HX.out], by rw [HT2.out, HX.out]; exact HF3.out⟩
          case measure => simp [intOf]; omega
      · obtain rfl : j = L.length := by omega
        have hjj : ¬ (L.length : Int) < (L.length : Int) := by omega
        rw [List.take_length, ← HR.out] at HF
        rw [List.take_length, ← HR.out]
        clear hjn hlen hlt hfr
        go_wp2
        go_ret
        exact ⟨_, _, rfl, HF.out⟩
end Go.Proofs.YtlhfjaagkgengaaGreat
