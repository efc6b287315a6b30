/- radix: parse. -/
import Derived.Test.YtgkdggidgaifhaaNe
import Derived.Deep.CutRange
import Derived.Deep.RegionLaw
namespace Go.Proofs.Ytgkdggidgaifhaa
open Go.RowKit
set_option linter.unusedVariables false
set_option linter.unusedSimpArgs false

theorem zero_cells (l : Nat) : Try.zeroCells95.setIfInBounds 0 (.int .i64 (l : Nat)) = ((List.range 68).map (nodeC (rn0 l) (fun _ => .slice none 0 0) (.slice none 0 0))).toArray := by kernel_rfl
theorem NdAt.of_block {w : World} {X : Nat} {x : RN} {vv : Nat → Value} {vl : Value} {t : TypeId} {cs : Array Value} (h : w.heap[X]? = some (.cells cs t (0, 0))) (hc : cs = ((List.range 68).map (nodeC x vv vl)).toArray) (h1 : ∀ i, i < 16 → SlB w (vv i) (x.vals i)) (h2 : SlB w vl x.val) : NdAt w X x vv vl := by
  subst hc
  refine ⟨fun k hk => ?_, fun k => ?_, h1, h2⟩
  · simp [World.cell?, h, hk]
  · simp [World.frozen?, h]
theorem slB_nil (w : World) : SlB w (.slice none 0 0) [] := ⟨_, _, _, rfl, Nat.le_refl _, SBy.nil _ _⟩
theorem rn0_at {w : World} {X l : Nat} {t : TypeId} (h : w.heap[X]? = some (.cells (Try.zeroCells95.setIfInBounds 0 (.int .i64 (l : Nat))) t (0, 0))) : NdAt w X (rn0 l) (fun _ => .slice none 0 0) (.slice none 0 0) :=
  .of_block h (zero_cells l) (fun i hi => slB_nil w) (slB_nil w)
theorem cur_at {Bk : Nat → Prop} {w : World} {C : Nat} {t : TypeId} {v : Value} {L : Bytes} (h : w.heap[C]? = some (.cells #[v, .bool false] t (0, 0))) (hv : SlA w v L) (hb : ∀ b o n c, v = .slice (some ⟨b, o, none⟩) n c → Bk b) (hC : ¬ Bk C) (hl : L.length ≤ 2 ^ 40) : CurAt Bk w C (L, false) :=
  ⟨⟨v, by simp [World.cell?, h], hv, hb⟩, hC, by simp [World.cell?, h], fun k => by simp [World.frozen?, h], hl⟩
theorem vals_nil (Vb : Nat → Prop) : ValsIn Vb (fun _ => .slice none 0 0) (.slice none 0 0) := ⟨fun i b o n c _ e => (by cases e), fun b o n c e => (by cases e)⟩
theorem PIn.made (w : World) (l : Nat) (v : Value) (r : Bytes) (t t' : TypeId) (hv : SlA w v r) (hb : ∀ b o n c, v = .slice (some ⟨b, o, none⟩) n c → b < w.heap.size) (hl : r.length ≤ 2 ^ 40) :
    PIn w.heap.size w ((w.alloc (.cells (Try.zeroCells95.setIfInBounds 0 (.int .i64 (l : Nat))) t)).alloc (.cells #[v, .bool false] t')).drew w.heap.size (w.heap.size + 1) (rn0 l) (r, false) (fun _ => .slice none 0 0) (.slice none 0 0) := by
  have hbl : Below w.heap.size w ((w.alloc (.cells (Try.zeroCells95.setIfInBounds 0 (.int .i64 (l : Nat))) t)).alloc (.cells #[v, .bool false] t')).drew := (((Below.refl _ _).alloc (Nat.le_refl _) _).alloc (by simp) _).drew
  have e1 := (Below.heap_alloc (w.alloc (.cells (Try.zeroCells95.setIfInBounds 0 (.int .i64 (l : Nat))) t)) (.cells #[v, .bool false] t') w.heap.size (by simp)).trans (heap_alloc_new w _)
  have e2 := heap_alloc_new (w.alloc (.cells (Try.zeroCells95.setIfInBounds 0 (.int .i64 (l : Nat))) t)) (.cells #[v, .bool false] t')
  rw [World.size_alloc] at e2
  exact ⟨rn0_at e1, vals_nil _, cur_at e2 (hv.off (Off.of_below hbl) (fun _ _ _ _ _ h => h)) hb (by omega) hl, by omega, Nat.le_refl _, by omega, hbl⟩
theorem PIn.made' (w : World) (l : Nat) (v : Value) (r : Bytes) (t t' : TypeId) (hv : SlA w v r) (hb : ∀ b o n c, v = .slice (some ⟨b, o, none⟩) n c → b < w.heap.size) (hl : r.length ≤ 2 ^ 40) :
    PIn w.heap.size w ((w.alloc (.cells #[v, .bool false] t')).alloc (.cells (Try.zeroCells95.setIfInBounds 0 (.int .i64 (l : Nat))) t)).drew (w.heap.size + 1) w.heap.size (rn0 l) (r, false) (fun _ => .slice none 0 0) (.slice none 0 0) := by
  have hbl : Below w.heap.size w ((w.alloc (.cells #[v, .bool false] t')).alloc (.cells (Try.zeroCells95.setIfInBounds 0 (.int .i64 (l : Nat))) t)).drew := (((Below.refl _ _).alloc (Nat.le_refl _) _).alloc (by simp) _).drew
  have e1 := (Below.heap_alloc (w.alloc (.cells #[v, .bool false] t')) (.cells (Try.zeroCells95.setIfInBounds 0 (.int .i64 (l : Nat))) t) w.heap.size (by simp)).trans (heap_alloc_new w _)
  have e2 := heap_alloc_new (w.alloc (.cells #[v, .bool false] t')) (.cells (Try.zeroCells95.setIfInBounds 0 (.int .i64 (l : Nat))) t)
  rw [World.size_alloc] at e2
  exact ⟨rn0_at e2, vals_nil _, cur_at e1 (hv.off (Off.of_below hbl) (fun _ _ _ _ _ h => h)) hb (by omega) hl, by omega, by omega, Nat.le_refl _, hbl⟩
theorem SlA.drop1 {w : World} {g o n c : Nat} {b : UInt8} {r : Bytes} (hS : SBy w (some ⟨g, o, none⟩) n (b :: r)) (hnc : n ≤ c) (hg : g < w.heap.size) : SlA w (.slice (if c = 1 then some ⟨g, o, none⟩ else some ⟨g, o + 1, none⟩) (n - 1) (c - 1)) r ∧
    ∀ b' o' n' c', Value.slice (if c = 1 then some ⟨g, o, none⟩ else some ⟨g, o + 1, none⟩) (n - 1) (c - 1) = .slice (some ⟨b', o', none⟩) n' c' → b' < w.heap.size := by
  have hn : 0 < n := by rw [← hS.1]; simp
  split
  · rename_i h1
    subst h1
    have h2 := SlA.dropAll (w := w) (b := g) (o := o) (n := n) (k := 1) (L := b :: r) (by omega) hS.1
    exact ⟨h2, fun b' o' n' c' e => by cases e; exact hg⟩
  · have h2 := SlA.drop (c := c) (k := 1) hS (by omega) hnc
    exact ⟨h2, fun b' o' n' c' e => by cases e; exact hg⟩
theorem next_lit {Bk : Nat → Prop} {w : World} {C : Nat} {s : Cur} (h : CurAt Bk w C s) (m : Nat) (M : Int) (hM : M = (m : Nat)) (hm : m < 9223372036854775808) : Calls Try.prog 79 #[.pointer (some ⟨C, 0, none⟩), .int .u64 M] w (NxPost Bk w C s m) := by
  subst hM
  exact next_any h hm
theorem take_lit {Bk : Nat → Prop} {w : World} {C : Nat} {s : Cur} (h : CurAt Bk w C s) (m : Nat) (M : Int) (hM : M = (m : Nat)) (hm : m < 9223372036854775808) : Calls Try.prog 80 #[.pointer (some ⟨C, 0, none⟩), .int .i64 M] w (TkPost Bk w C s m) := by
  subst hM
  exact take_any h hm
theorem PIn.sl {B : Nat} {w0 w : World} {X C : Nat} {x : RN} {s : Cur} {vv : Nat → Value} {vl : Value} (h : PIn B w0 w X C x s vv vl) : ∃ A c, w.cell? ⟨C, 0, none⟩ = some (.slice A s.1.length c) := by
  obtain ⟨v, c0, ⟨A, n, c, rfl, hnc, hS, hA⟩, hne⟩ := h.cu.b
  exact ⟨A, c, by rw [hS.1]; exact c0⟩
theorem PIn.fresh {B : Nat} {w0 w : World} {X C : Nat} {x : RN} {s : Cur} {vv : Nat → Value} {vl : Value} (h : PIn B w0 w X C x s vv vl) {v : Value} (hb : ∀ b o n c, v = .slice (some ⟨b, o, none⟩) n c → w.heap.size ≤ b) : ∀ b o n c, v = .slice (some ⟨b, o, none⟩) n c → B ≤ b ∧ b ≠ X ∧ b ≠ C := fun b o n c e => by
  have h1 := hb b o n c e
  have h2 := h.nd.lt
  have h3 := h.cu.lt
  have h4 := h.hX
  omega
theorem getShort_any (w : World) (A : Option Addr) (n c : Nat) (hn : n < 2) : Calls Try.prog 81 #[.slice A n c, .int .i64 2] w fun e w' => e = .returned (.tuple #[.int .u64 0, .bool false]) ∧ w' = w := by
  have d3 : (n : Int) < 2 := by omega
  go_enter Try.func81, Try.ntmps81
  go_wp2
  go_ret2
  exact ⟨rfl, rfl⟩
def mk2 (L : Bytes) : Nat := if L.length < 2 then 0 else le8 L 2
theorem mk2_lt (L : Bytes) : mk2 L < 65536 := by
  unfold mk2
  split
  · omega
  · have := le8_lt L 2; simpa using this
theorem get2_any {w : World} {A : Option Addr} {n c : Nat} {L : Bytes} (hS : SlA w (.slice A n c) L) (hl : L.length ≤ 2) : Calls Try.prog 81 #[.slice A n c, .int .i64 2] w fun e w' => (∃ y, e = .returned (.tuple #[.int .u64 (mk2 L : Nat), .bool y])) ∧ w' = w := by
  obtain ⟨A', n', c', e, h1, h2, h3⟩ := hS
  cases e
  have hl2 := h2.1
  unfold mk2
  by_cases h : n < 2
  · rw [if_pos (by omega)]
    refine (getShort_any w A n c h).mono ?_
    rintro e w' ⟨rfl, rfl⟩
    exact ⟨⟨_, rfl⟩, rfl⟩
  · rw [if_neg (by omega)]
    refine (get_any w A n c L 2 h2 (by omega) (by omega) (by unfold maxLen; omega)).mono ?_
    rintro e w' ⟨rfl, rfl⟩
    exact ⟨⟨_, rfl⟩, rfl⟩
theorem pMask_eq (l : Nat) (r : Bytes) : pMask l r = mk2 (takeN (pHead l r).2 2).1 := rfl
def PaPost (w : World) (L : Bytes) (e : Ending) (w' : World) : Prop := Below w.heap.size w w' ∧ match parseB L with
  | none => ∃ p, e = .returned (.tuple #[.pointer p, .bool false])
  | some x => ∃ X vv vl, e = .returned (.tuple #[.pointer (some ⟨X, 0, none⟩), .bool true]) ∧ NdAt w' X x vv vl ∧ w.heap.size ≤ X ∧ ValsIn (fun b => w.heap.size ≤ b ∧ b ≠ X) vv vl
set_option maxRecDepth 100000 in
set_option maxHeartbeats 4000000 in
theorem parse_any (w : World) (A : Option Addr) (n c : Nat) (L : Bytes) (hS : SBy w A n L) (hnc : n ≤ c) (hA : Adr A) (hl40 : L.length ≤ 2 ^ 40) : Calls Try.prog 56 #[.slice A n c] w (PaPost w L) := by
  have hlen := hS.1
  cases L with
  | nil =>
    simp at hlen
    subst hlen
    clear hS hA
    go_enter Try.func56, Try.ntmps56
    go_wp2
    go_ret2
    unfold PaPost
    simp only [parseB]
    exact ⟨Below.refl _ _, _, rfl⟩
  | cons b r =>
    obtain ⟨g, o, rfl, hg, hc⟩ := hS.2 (by rw [← hlen]; simp)
    have c0 := hc 0 (by rw [← hlen]; simp)
    simp only [at8, List.getD_cons_zero, Nat.add_zero] at c0
    have hn0 : 0 < n := by rw [← hlen]; simp
    have hb256 : b.toNat < 256 := UInt8.toNat_lt b
    have HSr := Lib.hid (SlA.drop1 (c := c) hS hnc hg)
    have hrl : r.length ≤ 2 ^ 40 := by simp at hl40; omega
    clear hc hS hA hl40 hlen
    by_cases h6 : 6 < b.toNat
    · have h6i : (b.toNat : Int) > 6 := by omega
      have hn1 : ¬ (n : Int) = 0 := by omega
      go_enter Try.func56, Try.ntmps56
      go_wp2
      go_ret2
      unfold PaPost
      simp only [parseB, h6, if_true]
      exact ⟨Below.refl _ _, _, rfl⟩
    · have hp : parseB (b :: r) = if b.toNat = 6 then (if (pLone r).2.2 = false ∧ (pLone r).1.val.length ≤ 256 then some (pLone r).1 else none)
          else if (pNode b.toNat r).2.2 = false ∧ (pNode b.toNat r).2.1 = [] ∧ pMask b.toNat r ≠ 0 then some (pNode b.toNat r).1 else none := by
        simp only [parseB, h6, if_false]
      have HP := Lib.hid hp
      clear hp
      obtain ⟨l, hl⟩ : ∃ l, l = b.toNat := ⟨_, rfl⟩
      rw [← hl] at c0 h6 HP hb256
      clear hl
      have h6i : ¬ (l : Int) > 6 := by omega
      have hwl : IntKind.i64.wrap (l : Int) = (l : Int) := by rw [IntKind.wrap_i64]; omega
      have hn1 : ¬ (n : Int) = 0 := by omega
      have hn2 : (1 : Int) ≤ (n : Nat) := by omega
      have hc1 : (1 : Int) ≤ (c : Nat) := by omega
      go_enter Try.func56, Try.ntmps56
      go_wp2_with fail
      go_upto_region 3 with (fail)
      go_cut [4, 5] from 18 to 27 (fun s4 s5 wc => ∃ X C, s4 = .pointer (some ⟨X, 0, none⟩) ∧ s5 = .pointer (some ⟨C, 0, none⟩) ∧ PIn w.heap.size w wc X C (rn0 l) (r, false) (fun _ => .slice none 0 0) (.slice none 0 0))
      case first =>
        go_wp2_with fail
        go_region_law (fail)
        all_goals
          have hq := HSr.out
          clear HSr
          generalize (if c = 1 then some (⟨g, o, none⟩ : Addr) else some ⟨g, o + 1, none⟩) = A1 at *
          have HQ := Lib.hid hq
          clear hq
          go_wp2_with fail
          go_meet
        all_goals (first | (exact ⟨w.heap.size, w.heap.size + 1, rfl, rfl, PIn.made w l _ r _ _ HQ.out.1 HQ.out.2 hrl⟩) | (exact ⟨w.heap.size + 1, w.heap.size, rfl, rfl, PIn.made' w l _ r _ _ HQ.out.1 HQ.out.2 hrl⟩))
      case rest =>
        obtain ⟨X, C, rfl, rfl, hin⟩ := hcut
        have HIN := Lib.hid hin
        clear hin HSr
        by_cases hl6 : l = 6
        · subst hl6
          have HP2 := HP.out
          simp only [if_true] at HP2
          have HQ := Lib.hid HP2
          clear HP2 HP
          have q0 := HIN.out.nd.level
          rw [show (rn0 6).level = 6 by rfl] at q0
          rw [show ((6 : Nat) : Int) = 6 by rfl] at q0
          have hnx := next_lit HIN.out.cu 16777215 16777215 rfl (by omega)
          have HNX := Lib.hid hnx
          clear hnx
          have z0 := HIN.out.nd.lt
          go_upto_region 6 with (go_at_call 79; refine HNX.out.mono ?_; rintro e w1 ⟨rfl, hc1, ho1⟩; have HI1 := Lib.hid (HIN.out.cur hc1 ho1); clear hc1 ho1; have y0 := HI1.out.nd.row 66 (by omega); have y1 := HI1.out.nd.free 66)
          have hk := HI1.out.nd.setKey (HI1.out.vi) (by simp) (nextN (r, false) 16777215).1
          refine wp_forget (fun w' => PIn w.heap.size w w' X C { rn0 6 with key := (nextN (r, false) 16777215).1 } (nextN (r, false) 16777215).2 (fun _ => .slice none 0 0) (.slice none 0 0)) (HI1.out.node hk.1 hk.2 HI1.out.vi) ?_
          clear y0 y1 hk HI1 z0 HIN HNX q0 w1
          intro w1 hi1
          have HI1 := Lib.hid hi1
          clear hi1
          obtain ⟨A1, c1, hcb⟩ := HI1.out.sl
          have hlen1 := nextN_len (r, false) 16777215
          simp only at hlen1
          have htk := take_any HI1.out.cu (k := (nextN (r, false) 16777215).2.1.length) (by omega)
          have HTK := Lib.hid htk
          clear htk
          generalize hN : nextN (r, false) 16777215 = N at *
          have HNN := Lib.hid hN
          clear hN
          go_upto_region 7 with (go_at_call 80; refine HTK.out.mono ?_; rintro e w2 ⟨A2, c2, rfl, hv2, hb2, hc2, ho2⟩; have HI2 := Lib.hid (HI1.out.cur hc2 ho2); have HV2 := Lib.hid hv2; have HB2 := Lib.hid (HI1.out.fresh (v := .slice A2 (takeN N.2 N.2.1.length).1.length c2) (fun b o n c e => hb2 b o (by cases e; rfl))); clear hv2 hb2 hc2 ho2; have y0 := HI2.out.nd.row 67 (by omega); have y1 := HI2.out.nd.free 67)
          have hk := HI2.out.nd.setVal (HI2.out.vi) (by simp) HV2.out.slB HB2.out
          refine wp_forget (fun w' => PIn w.heap.size w w' X C { rn0 6 with key := N.1, val := (takeN N.2 N.2.1.length).1 } (takeN N.2 N.2.1.length).2 (fun _ => .slice none 0 0) (.slice A2 (takeN N.2 N.2.1.length).1.length c2)) (HI2.out.node hk.1 hk.2.1 hk.2.2) ?_
          clear y0 y1 hk HI1 HI2 HTK hcb HV2 HB2 w1 w2
          intro w2 hi2
          have HI2 := Lib.hid hi2
          clear hi2
          have hbad := HI2.out.cu.bad
          have hval := HI2.out.nd.val
          have hpl : pLone r = ({ rn0 6 with key := N.1, val := (takeN N.2 N.2.1.length).1 }, (takeN N.2 N.2.1.length).2) := by
            unfold pLone
            rw [HNN.out]
          have HPL := Lib.hid hpl
          clear hpl
          have hq2 := HQ.out
          rw [HPL.out] at hq2
          simp only at hq2
          clear HQ HNN HPL
          generalize takeN N.2 N.2.1.length = T at *
          obtain ⟨tv, tb, tx⟩ := T
          simp only at hbad hval hq2
          by_cases hx : tx = false
          · subst hx
            by_cases h256 : tv.length ≤ 256
            · have HQ2 := Lib.hid hq2
              clear hq2
              have h256i : (tv.length : Int) ≤ 256 := by omega
              go_wp2
              go_quiet (fail)
              go_wp2
              go_ret2
              have := HQ2.out
              simp [h256] at this
              have hd := HI2.out.up (below_drewN (Below.refl _ _) nq)
              unfold PaPost
              refine ⟨hd.bel, ?_⟩
              rw [this]
              exact ⟨X, _, _, rfl, hd.nd, hd.hX, hd.vi.mono fun b hb => ⟨hb.1, hb.2.1⟩⟩
            · have HQ2 := Lib.hid hq2
              clear hq2
              have h256i : ¬ (tv.length : Int) ≤ 256 := by omega
              go_wp2
              go_quiet (fail)
              go_wp2
              go_ret2
              have := HQ2.out
              simp [h256] at this
              have hd := HI2.out.up (below_drewN (Below.refl _ _) nq)
              unfold PaPost
              refine ⟨hd.bel, ?_⟩
              rw [this]
              have hdf : decide ((tv.length : Int) ≤ 256) = false := decide_eq_false (by omega)
              refine ⟨some ⟨X, 0, none⟩, ?_⟩
              rw [← hdf]
              rfl
          · have hx1 : tx = true := by simpa using hx
            subst hx1
            have HQ2 := Lib.hid hq2
            clear hq2
            go_wp2
            go_quiet (fail)
            go_wp2
            go_ret2
            have := HQ2.out
            simp at this
            have hd := HI2.out.up (below_drewN (Below.refl _ _) nq)
            unfold PaPost
            refine ⟨hd.bel, ?_⟩
            rw [this]
            exact ⟨_, rfl⟩
        · have HP2 := HP.out
          rw [if_neg hl6] at HP2
          have HQ := Lib.hid HP2
          clear HP2 HP
          have hl5 : l ≤ 5 := by omega
          have q0 := HIN.out.nd.level
          rw [show (rn0 l).level = l by rfl] at q0
          have hl6i : ¬ (l : Int) = 6 := by omega
          go_upto_region 8 with (fail)
          go_cut [62] from 62 to 73 (fun s62 wd => s62 = .pointer (some ⟨X, 0, none⟩) ∧ PIn w.heap.size w wd X C { rn0 l with prefix_ := (pHead l r).1 } (pHead l r).2 (fun _ => .slice none 0 0) (.slice none 0 0))
          case first =>
            have hc : l = 0 ∨ l = 1 ∨ l = 2 ∨ l = 3 ∨ l = 4 ∨ l = 5 := by omega
            rcases hc with rfl | rfl | rfl | rfl | rfl | rfl
            · have HNX := Lib.hid (next_lit HIN.out.cu 0 0 rfl (by omega))
              go_wp2_with (go_at_call 79; refine HNX.out.mono ?_; rintro e w1 ⟨rfl, hc1, ho1⟩; have HI1 := Lib.hid (HIN.out.cur hc1 ho1); clear hc1 ho1; have y0 := HI1.out.nd.row 1 (by omega); have y1 := HI1.out.nd.free 1)
              go_meet
              have hk := HI1.out.nd.setPrefix (HI1.out.vi) (by simp) (nextN (r, false) 0).1
              exact ⟨rfl, HI1.out.node hk.1 hk.2 HI1.out.vi⟩
            · have HNX := Lib.hid (next_lit HIN.out.cu 15 15 rfl (by omega))
              go_wp2_with (go_at_call 79; refine HNX.out.mono ?_; rintro e w1 ⟨rfl, hc1, ho1⟩; have HI1 := Lib.hid (HIN.out.cur hc1 ho1); clear hc1 ho1; have y0 := HI1.out.nd.row 1 (by omega); have y1 := HI1.out.nd.free 1)
              go_meet
              have hk := HI1.out.nd.setPrefix (HI1.out.vi) (by simp) (nextN (r, false) 15).1
              exact ⟨rfl, HI1.out.node hk.1 hk.2 HI1.out.vi⟩
            · have HNX := Lib.hid (next_lit HIN.out.cu 255 255 rfl (by omega))
              go_wp2_with (go_at_call 79; refine HNX.out.mono ?_; rintro e w1 ⟨rfl, hc1, ho1⟩; have HI1 := Lib.hid (HIN.out.cur hc1 ho1); clear hc1 ho1; have y0 := HI1.out.nd.row 1 (by omega); have y1 := HI1.out.nd.free 1)
              go_meet
              have hk := HI1.out.nd.setPrefix (HI1.out.vi) (by simp) (nextN (r, false) 255).1
              exact ⟨rfl, HI1.out.node hk.1 hk.2 HI1.out.vi⟩
            · have HNX := Lib.hid (next_lit HIN.out.cu 4095 4095 rfl (by omega))
              go_wp2_with (go_at_call 79; refine HNX.out.mono ?_; rintro e w1 ⟨rfl, hc1, ho1⟩; have HI1 := Lib.hid (HIN.out.cur hc1 ho1); clear hc1 ho1; have y0 := HI1.out.nd.row 1 (by omega); have y1 := HI1.out.nd.free 1)
              go_meet
              have hk := HI1.out.nd.setPrefix (HI1.out.vi) (by simp) (nextN (r, false) 4095).1
              exact ⟨rfl, HI1.out.node hk.1 hk.2 HI1.out.vi⟩
            · have HNX := Lib.hid (next_lit HIN.out.cu 65535 65535 rfl (by omega))
              go_wp2_with (go_at_call 79; refine HNX.out.mono ?_; rintro e w1 ⟨rfl, hc1, ho1⟩; have HI1 := Lib.hid (HIN.out.cur hc1 ho1); clear hc1 ho1; have y0 := HI1.out.nd.row 1 (by omega); have y1 := HI1.out.nd.free 1)
              go_meet
              have hk := HI1.out.nd.setPrefix (HI1.out.vi) (by simp) (nextN (r, false) 65535).1
              exact ⟨rfl, HI1.out.node hk.1 hk.2 HI1.out.vi⟩
            · have HNX := Lib.hid (next_lit HIN.out.cu 1048575 1048575 rfl (by omega))
              go_wp2_with (go_at_call 79; refine HNX.out.mono ?_; rintro e w1 ⟨rfl, hc1, ho1⟩; have HI1 := Lib.hid (HIN.out.cur hc1 ho1); clear hc1 ho1; have y0 := HI1.out.nd.row 1 (by omega); have y1 := HI1.out.nd.free 1)
              go_meet
              have hk := HI1.out.nd.setPrefix (HI1.out.vi) (by simp) (nextN (r, false) 1048575).1
              exact ⟨rfl, HI1.out.node hk.1 hk.2 HI1.out.vi⟩
          case rest =>
            obtain ⟨rfl, hi2⟩ := hcut
            have HI2 := Lib.hid hi2
            clear hi2 HIN q0
            have HTK := Lib.hid (take_lit HI2.out.cu 2 2 rfl (by omega))
            obtain ⟨hd, hhd⟩ : ∃ hd, hd = (pHead l r).1 := ⟨_, rfl⟩
            have hlen1 : (pHead l r).2.1.length ≤ 2 ^ 40 := Nat.le_trans (nextN_len _ _) hrl
            have HHD := Lib.hid hhd
            rw [← hhd] at HI2
            clear hhd
            go_upto_region 10 with (first | (go_at_call 80; refine HTK.out.mono ?_; rintro e w2 ⟨A2, c2, rfl, hv2, hb2, hc2, ho2⟩; have HI3 := Lib.hid (HI2.out.cur hc2 ho2); have HV2 := Lib.hid hv2; clear hv2 hb2 hc2 ho2) | (go_at_call 81; refine (get2_any HV2.out (takeN_le _ _)).mono ?_; rintro e w3 ⟨⟨yy, rfl⟩, rfl⟩))
            rw [← pMask_eq]
            refine wp_forget (fun w' => PIn w.heap.size w w' X C { rn0 l with prefix_ := hd } (takeN (pHead l r).2 2).2 (fun _ => .slice none 0 0) (.slice none 0 0)) HI3.out ?_
            clear HTK HI2 HV2 HI3
            intro w3 hi3
            have HI3 := Lib.hid hi3
            clear hi3
            obtain ⟨m, hm⟩ : ∃ m, m = pMask l r := ⟨_, rfl⟩
            have hpn : pNode l r = pLoop m ({ rn0 l with prefix_ := hd }, (takeN (pHead l r).2 2).2) 16 := by
              rw [hm, HHD.out]; rfl
            have HPN := Lib.hid hpn
            have hmlt : m < 65536 := by rw [hm, pMask_eq]; exact mk2_lt _
            rw [← hm]
            have hq3 := HQ.out
            rw [← hm, hpn] at hq3
            have HQ3 := Lib.hid hq3
            clear hq3 HQ hpn HPN hm
            obtain ⟨st0, hst0⟩ : ∃ st0 : RN × Cur, st0 = ({ rn0 l with prefix_ := hd }, (takeN (pHead l r).2 2).2) := ⟨_, rfl⟩
            rw [← hst0] at HQ3
            have hi4 := HI3.out
            rw [show ({ rn0 l with prefix_ := hd } : RN) = st0.1 by rw [hst0], show (takeN (pHead l r).2 2).2 = st0.2 by rw [hst0]] at hi4
            have hlv : st0.1.level = l := by rw [hst0]; rfl
            have HLV := Lib.hid hlv
            have HI4 := Lib.hid hi4
            clear hi4 HI3 hst0 hlv HHD
            go_wp2
            go_loopw [80] (fun i wr => ∃ j : Nat, j ≤ 16 ∧ i = .int .i64 j ∧ ∃ vv vl, PIn w.heap.size w wr X C (pLoop m st0 j).1 (pLoop m st0 j).2 vv vl) (fun i _ => 16 - (intOf i).toNat)
            case atStart => exact ⟨0, by omega, rfl, _, _, HI4.out⟩
            case round =>
              obtain ⟨j, hj, rfl, vv, vl, hi5⟩ := hrel
              have HI5 := Lib.hid hi5
              have hlevel := (pLoop_level m st0 j).1.trans HLV.out
              clear hi5 HI4
              by_cases hj16 : j < 16
              · obtain ⟨q, hq⟩ : ∃ q, q = m / 2 ^ j := ⟨_, rfl⟩
                have e1 : (m : Int) / 2 ^ j = (q : Nat) := by rw [hq]; simp
                have hqm : q ≤ m := by rw [hq]; exact Nat.div_le_self _ _
                have e2 : bits .and .u64 ((q : Nat) : Int) 1 = ((q % 2 : Nat) : Int) := by
                  have := and64 (a := q) (b := 1) (by omega) (by omega)
                  rw [show ((1 : Nat) : Int) = 1 by rfl] at this
                  rw [this, Nat.and_one_is_mod]
                have hst : pLoop m st0 (j + 1) = pStep m (pLoop m st0 j) j := rfl
                unfold pStep at hst
                rw [← hq] at hst
                clear hq
                generalize pLoop m st0 j = st at *
                obtain ⟨x, cu⟩ := st
                simp only at hst hlevel HI5
                have HST := Lib.hid hst
                clear hst
                have hj16i : (j : Int) < 16 := by omega
                have HD := Lib.hid HI5.out.drew
                by_cases hqq : q % 2 = 1
                · rw [hqq] at e2
                  have hst := HST.out
                  simp only [hqq, true_and, decide_true] at hst
                  have HS2 := Lib.hid hst
                  clear hst HST
                  have y0 := HD.out.nd.has hj16
                  have y1 := HD.out.nd.free (50 + j)
                  go_upto_region 13 with (fail)
                  go_region_law (fail)
                  go_upto_region 14 with (fail)
                  have hk := HI5.out.nd.setHas HI5.out.vi (by simp) hj16 true
                  refine wp_forget (fun w' => PIn w.heap.size w w' X C { x with has := upd x.has j true } cu vv vl) (HI5.out.node hk.1 hk.2 HI5.out.vi).drew ?_
                  clear y0 y1 hk HD HI5 e1 e2
                  intro w4 hi6
                  have HI6 := Lib.hid hi6
                  clear hi6
                  have y0 : w4.cell? ⟨X, 50 + j, none⟩ = some (.bool true) := by
                    have := HI6.out.nd.has hj16
                    simpa [upd] using this
                  have y1 := HI6.out.cu.bad
                  obtain ⟨cb, cx⟩ := cu
                  simp only at HS2 y1
                  cases cx with
                  | true =>
                    simp only [Bool.true_eq_false, if_false] at HS2
                    go_wp2
                    go_roundw
                    case rel => exact ⟨j + 1, by omega, by go_num, vv, vl, by rw [HS2.out]; exact HI6.out⟩
                    case measure => simp [intOf]; omega
                  | false =>
                    simp only [if_true] at HS2
                    have y2 := HI6.out.nd.level
                    rw [show ({ x with has := upd x.has j true } : RN).level = l by rw [← hlevel]] at y2
                    by_cases hl5e : l = 5
                    · have hs2 := HS2.out
                      rw [if_pos (hlevel.trans hl5e)] at hs2
                      have HS3 := Lib.hid hs2
                      clear hs2 HS2
                      subst hl5e
                      go_upto_region 16 with (fail)
                      clear y0 y1 y2
                      have HD := Lib.hid HI6.out.drew
                      have HNX := Lib.hid (next_lit HD.out.cu 256 256 rfl (by omega))
                      have hn256 := nextN_le (cb, false) 256
                      go_region_law (first | (go_simp; go_at_call 79; refine HNX.out.mono ?_; rintro e w5 ⟨rfl, hc1, ho1⟩; have HI7 := Lib.hid (HD.out.cur hc1 ho1); clear hc1 ho1) | (go_simp; go_at_call 80; refine (take_any HI7.out.cu (by omega)).mono ?_; rintro e w6 ⟨A2, c2, rfl, hv2, hb2, hc2, ho2⟩; have HI8 := Lib.hid (HI7.out.cur hc2 ho2); have HV2 := Lib.hid hv2; have HB2 := Lib.hid (HI7.out.fresh (v := .slice A2 (takeN (nextN (cb, false) 256).2 (nextN (cb, false) 256).1).1.length c2) (fun b o n c e => hb2 b o (by cases e; rfl))); clear hv2 hb2 hc2 ho2; have y0 := HI8.out.nd.vals hj16; have y1 := HI8.out.nd.free (34 + j)))
                      go_upto_region 19 with (fail)
                      have hk := HI8.out.nd.setVals HI8.out.vi (by simp) hj16 HV2.out.slB HB2.out
                      have hi9 := HI8.out.node hk.1 hk.2.1 hk.2.2
                      have HI9 := Lib.hid hi9
                      clear hi9 hk
                      go_wp2
                      go_roundw
                      case rel => exact ⟨j + 1, by omega, by go_num, _, _, by rw [HS3.out]; exact HI9.out⟩
                      case measure => simp [intOf]; omega
                    · have hs2 := HS2.out
                      rw [if_neg (by rw [hlevel]; exact hl5e)] at hs2
                      have HS3 := Lib.hid hs2
                      have hl5i : ¬ (l : Int) = 5 := by omega
                      clear hs2 HS2
                      go_upto_region 17 with (fail)
                      clear y0 y1 y2
                      have HD := Lib.hid HI6.out.drew
                      have HNX := Lib.hid (next_lit HD.out.cu 2147483647 2147483647 rfl (by omega))
                      go_region_law (go_simp; go_at_call 79; refine HNX.out.mono ?_; rintro e w5 ⟨rfl, hc1, ho1⟩; have HI7 := Lib.hid (HD.out.cur hc1 ho1); clear hc1 ho1; have y0 := (HI7.out.nd.kid hj16).1; have y1 := HI7.out.nd.free (2 + j * 2))
                      go_upto_region 18 with (fail)
                      have hk := HI7.out.nd.setKid1 HI7.out.vi (by simp) hj16 ((nextN (cb, false) 2147483647).1 : Nat)
                      obtain ⟨N1, hN1⟩ : ∃ N1, N1 = nextN (cb, false) 2147483647 := ⟨_, rfl⟩
                      rw [← hN1] at HS3 HI7 hk ⊢
                      refine wp_forget (fun w' => PIn w.heap.size w w' X C { x with has := upd x.has j true, kids := upd x.kids j ((N1.1 : Nat), (x.kids j).2) } N1.2 vv vl) (HI7.out.node hk.1 hk.2 HI7.out.vi) ?_
                      clear y0 y1 hk HD HI6 HI7 HNX hN1
                      intro w6 hi7
                      have HD := Lib.hid hi7.drew
                      clear hi7
                      have HNX := Lib.hid (next_lit HD.out.cu 2147483647 2147483647 rfl (by omega))
                      go_region_law (go_simp; go_at_call 79; refine HNX.out.mono ?_; rintro e w7 ⟨rfl, hc1, ho1⟩; have HI7 := Lib.hid (HD.out.cur hc1 ho1); clear hc1 ho1; have y0 := (HI7.out.nd.kid hj16).2; have y1 := HI7.out.nd.free (2 + j * 2 + 1))
                      go_wp2
                      have hk := HI7.out.nd.setKid2 HI7.out.vi (by simp) hj16 ((nextN N1.2 2147483647).1 : Nat)
                      have hi9 := HI7.out.node hk.1 hk.2 HI7.out.vi
                      have hkk : upd (upd x.kids j ((N1.1 : Nat), (x.kids j).2)) j ((upd x.kids j ((N1.1 : Nat), (x.kids j).2) j).1, ((nextN N1.2 2147483647).1 : Nat)) = upd x.kids j ((N1.1 : Nat), ((nextN N1.2 2147483647).1 : Nat)) := by
                        funext i
                        simp only [upd, if_true]
                        split <;> rfl
                      simp only [hkk] at hi9
                      have HI9 := Lib.hid hi9
                      clear hi9 hk hkk
                      go_roundw
                      case rel => exact ⟨j + 1, by omega, by go_num, _, _, by rw [HS3.out]; exact HI9.out⟩
                      case measure => simp [intOf]; omega
                · have hq0 : q % 2 = 0 := by omega
                  rw [hq0] at e2
                  have hst := HST.out
                  simp only [hqq, false_and, if_false, decide_false] at hst
                  have HS2 := Lib.hid hst
                  clear hst HST
                  have y0 := HD.out.nd.has hj16
                  have y1 := HD.out.nd.free (50 + j)
                  go_upto_region 13 with (fail)
                  go_region_law (fail)
                  go_upto_region 14 with (fail)
                  have hk := HI5.out.nd.setHas HI5.out.vi (by simp) hj16 false
                  refine wp_forget (fun w' => PIn w.heap.size w w' X C { x with has := upd x.has j false } cu vv vl) (HI5.out.node hk.1 hk.2 HI5.out.vi).drew ?_
                  clear y0 y1 hk HD HI5 e1 e2
                  intro w4 hi6
                  have HI6 := Lib.hid hi6
                  clear hi6
                  have y0 : w4.cell? ⟨X, 50 + j, none⟩ = some (.bool false) := by
                    have := HI6.out.nd.has hj16
                    simpa [upd] using this
                  go_wp2
                  go_roundw
                  case rel => exact ⟨j + 1, by omega, by go_num, vv, vl, by rw [HS2.out]; exact HI6.out⟩
                  case measure => simp [intOf]; omega
              · obtain rfl : j = 16 := by omega
                generalize pLoop m st0 16 = st at *
                obtain ⟨x, cb, cx⟩ := st
                simp only at HQ3 HI5 hlevel
                have y1 := HI5.out.cu.bad
                obtain ⟨Ab, cc, y2⟩ := HI5.out.sl
                simp only at y1 y2
                have HH := HQ3.out
                clear hlevel HLV
                by_cases hc : cx = false ∧ cb = [] ∧ m ≠ 0
                · rw [if_pos hc] at HH
                  have HR := Lib.hid HH
                  clear HH HQ3
                  obtain ⟨rfl, rfl, hm0⟩ := hc
                  have hm0i : ¬ (m : Int) = 0 := by omega
                  simp only [List.length_nil] at y2
                  go_wp2
                  go_ret2
                  unfold PaPost
                  refine ⟨HI5.out.bel, ?_⟩
                  rw [HR.out]
                  have hmt : ((m : Int) != 0) = true := by simpa using hm0
                  refine ⟨X, _, _, ?_, HI5.out.nd, HI5.out.hX, HI5.out.vi.mono fun b hb => ⟨hb.1, hb.2.1⟩⟩
                  rw [← hmt]
                  rfl
                · rw [if_neg hc] at HH
                  have HR := Lib.hid HH
                  clear HH HQ3
                  cases cx with
                  | true =>
                    clear hc
                    go_wp2
                    go_ret2
                    unfold PaPost
                    refine ⟨HI5.out.bel, ?_⟩
                    rw [HR.out]
                    exact ⟨_, rfl⟩
                  | false =>
                    by_cases hcb : cb = []
                    · subst hcb
                      have hm0 : m = 0 := by
                        by_cases h : m = 0
                        · exact h
                        · exact absurd ⟨rfl, rfl, h⟩ hc
                      subst hm0
                      clear hc
                      simp only [List.length_nil] at y2
                      go_wp2
                      go_ret2
                      unfold PaPost
                      refine ⟨HI5.out.bel, ?_⟩
                      rw [HR.out]
                      exact ⟨_, rfl⟩
                    · clear hc
                      have hne : ¬ (cb.length : Int) = 0 := by
                        have := List.length_pos_iff.2 hcb
                        omega
                      go_wp2
                      go_ret2
                      unfold PaPost
                      refine ⟨HI5.out.bel, ?_⟩
                      rw [HR.out]
                      exact ⟨_, rfl⟩
end Go.Proofs.Ytgkdggidgaifhaa
