/- region: joined. -/
import Derived.Test.YtlhfjaagkgengaaGreatRgGZ
import Derived.Laws.OwnMore
import Derived.BigQuiet
namespace Go.Proofs.YtlhfjaagkgengaaGreat
open Go.RowKit
set_option linter.unusedVariables false
set_option linter.unusedSimpArgs false
def jn (out : List Rg) (r : Rg) : List Rg :=
  match out.getLast? with
  | none => out ++ [r]
  | some y => if y.hi = r.lo ∧ y.pr = r.pr then out.dropLast ++ [⟨y.lo, r.hi, y.pr⟩] else out ++ [r]
def joinF (L : List Rg) : List Rg := L.foldl jn []
def joinedR (L : List Rg) : List Rg := joinF (sortG L)
theorem jn_nil (r : Rg) : jn [] r = [r] := rfl
theorem jn_yes (M : List Rg) (y r : Rg) (h : y.hi = r.lo ∧ y.pr = r.pr) : jn (M ++ [y]) r = M ++ [⟨y.lo, r.hi, y.pr⟩] := by
  unfold jn
  simp [h]
theorem jn_no (M : List Rg) (y r : Rg) (h : ¬ (y.hi = r.lo ∧ y.pr = r.pr)) : jn (M ++ [y]) r = M ++ [y] ++ [r] := by
  unfold jn
  simp only [List.getLast?_append, List.getLast?_singleton, Option.some_or]
  rw [if_neg h]
theorem jn_len (M : List Rg) (r : Rg) : (jn M r).length ≤ M.length + 1 := by
  unfold jn
  split
  · simp
  · split
    · simp; try omega
    · simp
theorem join_take (L : List Rg) {j : Nat} {r : Rg} (hr : L[j]? = some r) : joinF (L.take (j + 1)) = jn (joinF (L.take j)) r := by
  unfold joinF
  rw [List.take_add_one, hr]
  simp
theorem fold_len : ∀ (L : List Rg) (M : List Rg), (L.foldl jn M).length ≤ M.length + L.length
  | [], M => by simp
  | x :: L, M => by
    have h1 := fold_len L (jn M x)
    have h2 := jn_len M x
    simp only [List.foldl_cons, List.length_cons]
    omega
theorem join_len (L : List Rg) : (joinF L).length ≤ L.length := by
  have := fold_len L []
  simpa [joinF] using this
theorem eq_rg (x y : Rg) (w : World) : (Op.equalIn 10000 62 (.agg #[.int .i64 x.lo, .int .i64 x.hi, .int .i64 x.pr]) (.agg #[.int .i64 y.lo, .int .i64 y.hi, .int .i64 y.pr])).run Tryz.prog w = .ok (decide (x = y)) w := by
  obtain ⟨a, b, c⟩ := x
  obtain ⟨d, e, f⟩ := y
  have h : (Op.equalIn 10000 62 (.agg #[.int .i64 a, .int .i64 b, .int .i64 c]) (.agg #[.int .i64 d, .int .i64 e, .int .i64 f])).run Tryz.prog w = .ok (a == d && (b == e && c == f)) w := by
    rw [run_equalIn_agg (P := Tryz.prog) w 9999 62 _ _ (by kernel_rfl) (by kernel_rfl)]
    cases h1 : a == d <;> cases h2 : b == e <;> cases h3 : c == f <;> simp [go_sem, h1, h2, h3] <;> simp_all
  have h2 : (a == d && (b == e && c == f)) = decide ((⟨a, b, c⟩ : Rg) = ⟨d, e, f⟩) := by
    rw [Bool.eq_iff_iff]
    simp
  rw [h, h2]
theorem OwG.low {B B' : Nat} {w : World} {v : Value} {L : List Rg} (h : OwG B' w v L) (hb : B ≤ B') : OwG B w v L := by
  refine ⟨h.1, ?_⟩
  rcases h.2 with hn | ⟨g, cap, cur, e, hbg, rest⟩
  · exact .inl hn
  · exact .inr ⟨g, cap, cur, e, Nat.le_trans hb hbg, rest⟩
theorem OwG.frozenAt {B : Nat} {w : World} {G n c : Nat} {M : List Rg} (h : OwG B w (.slice (some ⟨G, 0, none⟩) n c) M) (j : Nat) : w.frozen? ⟨G, j, none⟩ = false := by
  have hn : n = M.length := by obtain ⟨A, c', e, _⟩ := h.form; cases e; rfl
  subst hn
  exact World.ownsRow.frozenAt h j
theorem OwG.setHi {B : Nat} {w : World} {G n c : Nat} {M : List Rg} {y : Rg} (h : OwG B w (.slice (some ⟨G, 0, none⟩) n c) (M ++ [y])) (z : Int) :
    OwG B (w.setCell ⟨G, M.length * 3 + 1, none⟩ (.int .i64 z)) (.slice (some ⟨G, 0, none⟩) n c) (M ++ [⟨y.lo, z, y.pr⟩]) ∧ Off (· = G) w (w.setCell ⟨G, M.length * 3 + 1, none⟩ (.int .i64 z)) := by
  refine ⟨?_, (Off.refl (· = G) w).setCell (p := ⟨G, _, none⟩) rfl _⟩
  have hn : n = M.length + 1 := by obtain ⟨A, c', e, _⟩ := h.form; cases e; simp
  subst hn
  unfold OwG at h ⊢
  rw [List.length_append, List.length_singleton] at h ⊢
  have := (World.ownsRow.stored h (M.length * 3 + 1) (.int .i64 z)).1
  have e : (rgC (M ++ [y])).set (M.length * 3 + 1) (.int .i64 z) = rgC (M ++ [⟨y.lo, z, y.pr⟩]) := by
    rw [rgC_app, rgC_app, List.set_append_right _ _ (by rw [rgC_len]; omega), rgC_len]
    rw [show M.length * 3 + 1 - M.length * 3 = 1 by omega]
    rfl
  rw [e] at this
  exact this
set_option maxRecDepth 100000 in
set_option maxHeartbeats 8000000 in
theorem joined_any (w : World) {B c : Nat} {A : Option Addr} {L : List Rg} (hL : OwG B w (.slice A L.length c) L) (hB : B ≤ w.heap.size) (hd : RgDist L) (hn : L.length ≤ 100000) :
    Calls Tryz.prog 145 #[.slice A L.length c] w fun e w' => ∃ A' c', e = .returned (.slice A' (joinedR L).length c') ∧ OwG w.heap.size w' (.slice A' (joinedR L).length c') (joinedR L) ∧ Off (fun k => (Value.slice A L.length c).ownBlock = some k) w w' := by
  have HS := Lib.hid (sort_any w hL hd hn)
  have HBw := Lib.hid hB
  have HLt := Lib.hid (fun k e => hL.lt (k := k) e)
  have hlen : (sortG L).length = L.length := by simp [sortG]
  unfold joinedR
  obtain ⟨S, hS⟩ : ∃ S, sortG L = S := ⟨_, rfl⟩
  rw [hS] at HS hlen
  rw [hS]
  rw [← hlen] at HS HLt hn
  rw [← hlen]
  obtain ⟨R, hR⟩ : ∃ R, R = joinF S := ⟨_, rfl⟩
  rw [← hR]
  have HR := Lib.hid hR
  clear hL hd hlen hS hR hB
  go_enter Tryz.func145, Tryz.ntmps145
  go_upto_region 3 with (go_at_call 169; refine HS.out.mono ?_; rintro e w1 ⟨rfl, h1, h2⟩; have HRow := Lib.hid h1; have HOf := Lib.hid h2; clear h1 h2)
  have HB1 := Lib.hid (Nat.le_trans HBw.out HOf.out.size)
  go_wp2
  go_loopw [3, 11, 5, 6] (fun v i b5 b6 wr => ∃ (j : Nat) (A' : Option Addr) (c' : Nat), j ≤ S.length ∧ i = .int .i64 (j : Nat) ∧ v = .slice A' (joinF (S.take j)).length c' ∧ FrG w1 wr (.slice A' (joinF (S.take j)).length c') (joinF (S.take j))) (fun _ i _ _ _ => S.length - (intOf i).toNat)
  case atStart => exact ⟨0, none, 0, by omega, rfl, rfl, FrG.nil w1⟩
  case round =>
    obtain ⟨j, A1, c1, hj, rfl, rfl, hfr⟩ := hrel
    have HF := Lib.hid hfr
    have hlen := join_len (S.take j)
    have hlt : (S.take j).length ≤ S.length := by simp; omega
    by_cases hjn : j < S.length
    · have hrow := HRow.out.up hfr.2
      obtain ⟨g, o, hA, hg, hc⟩ := hrow.at_ (by omega)
      obtain ⟨r, hr⟩ : ∃ r, S[j]? = some r := ⟨_, List.getElem?_eq_getElem hjn⟩
      obtain ⟨q0, q1, q2⟩ := hc j r hr
      have hjI : (j : Int) < (S.length : Int) := by omega
      have HT := Lib.hid (join_take S hr)
      obtain ⟨ra, rb, rp⟩ := r
      simp only at q0 q1 q2
      rw [hA]
      obtain ⟨M, hM⟩ : ∃ M, joinF (S.take j) = M := ⟨_, rfl⟩
      rw [hM] at HF HT hlen
      rw [hM]
      clear hfr hc hr hM hrow
      go_upto_region 6 with (fail)
      refine wp_forget (fun V => FrG w1 V (.slice A1 M.length c1) M ∧ Rg3 V wr.heap.size ra rb rp) ⟨HF.out.up ((Below.refl _ _).alloc (Nat.le_refl _) _), Rg3.new wr ra rb rp 62⟩ ?_
      rintro V ⟨hf, k9⟩
      obtain ⟨b9, hb9⟩ : ∃ g, wr.heap.size = g := ⟨_, rfl⟩
      rw [hb9] at k9
      rw [hb9]
      have HFV := Lib.hid hf
      obtain ⟨x0, x1, x2⟩ := k9
      have lx := lt_of_cell x0
      clear hf HF q0 q1 q2 hb9
      have pushed : Hid (jn M ⟨ra, rb, rp⟩ = M ++ [⟨ra, rb, rp⟩] → ∀ V2, Below V.heap.size V V2 → ∃ A' c' w', (Builtin.append_ #[41, 41] 41 #[.slice A1 M.length c1, .slice (some ⟨V2.heap.size, 0, none⟩) 1 1]).run Tryz.prog (V2.alloc (.cells #[.int .i64 ra, .int .i64 rb, .int .i64 rp] 62)) = .ok (.slice A' (joinF (S.take (j + 1))).length c') w' ∧ FrG w1 w' (.slice A' (joinF (S.take (j + 1))).length c') (joinF (S.take (j + 1)))) := Lib.hid fun e V2 hb => by
        obtain ⟨A2, c2, w2, hr2, hf2, _⟩ := (HFV.out.up hb).push ⟨ra, rb, rp⟩ 62 (by omega) 41
        rw [HT.out, e]
        refine ⟨A2, c2, w2, ?_, ?_⟩
        · rw [List.length_append, List.length_singleton]; exact hr2
        · rw [List.length_append, List.length_singleton]; exact hf2
      rcases M.eq_nil_or_concat with rfl | ⟨M0, y, hM0⟩
      · have HPU := Lib.hid (pushed.out (jn_nil _))
        clear pushed
        simp only [List.length_nil] at HPU ⊢
        have hd : decide ((0 : Int) < ((0 : Nat) : Int)) = false := by simp
        go_upto_region 7 with (fail)
        go_quiet (fail)
        obtain ⟨A2, c2, w2, hr2, hf2⟩ := HPU.out (V.drewN nq) ⟨rfl, rfl, rfl, Nat.le_refl _, fun _ _ => rfl⟩
        have HF2 := Lib.hid hf2
        clear hf2
        go_wp2_with (at_builtin; go_must (refine wpList_append_run rfl (.tmp 45) (.tmp 47) 41 rfl _ _ rfl rfl hr2 ?_))
        go_roundw
        case rel => exact ⟨j + 1, A2, c2, by omega, by go_num, rfl, HF2.out⟩
        case measure => simp [intOf]; omega
      · rw [List.concat_eq_append] at hM0
        subst hM0
        rw [List.length_append, List.length_singleton] at hlen HFV pushed ⊢
        obtain ⟨ya, yb, yp⟩ := y
        have hA1 := HFV.out.1.rg
        obtain ⟨g1, o1, rfl, hg1, hc1⟩ := hA1.at_ (by simp)
        obtain ⟨z0, z1, z2⟩ := hc1 M0.length ⟨ya, yb, yp⟩ (by simp)
        obtain rfl : o1 = 0 := by
          have hl := HFV.out.1.form
          obtain ⟨G, cap, hG, _⟩ := World.ownsRow.form HFV.out.1 (by simp)
          injection hG with e
          injection e with e
          injection e
        simp only [Nat.zero_add] at z0 z1 z2
        have hm : (0 : Int) < ((M0.length + 1 : Nat) : Int) := by omega
        have hi : IntKind.i64.wrap (((M0.length + 1 : Nat) : Int) - 1) = (M0.length : Int) := by rw [IntWalk.i64_in _ (by omega)]; omega
        have hb : (M0.length : Int) < ((M0.length + 1 : Nat) : Int) := by omega
        clear hA1 hc1
        by_cases h : yb = ra ∧ yp = rp
        · have heq : ∀ w, (Op.equalIn 10000 62 (.agg #[.int .i64 ya, .int .i64 yb, .int .i64 yp]) (.agg #[.int .i64 ya, .int .i64 ra, .int .i64 rp])).run Tryz.prog w = .ok true w := fun w => by
            rw [eq_rg ⟨ya, yb, yp⟩ ⟨ya, ra, rp⟩, h.1, h.2]; simp
          have HJ := Lib.hid (jn_yes M0 ⟨ya, yb, yp⟩ ⟨ra, rb, rp⟩ h)
          have HOW2 := Lib.hid (HFV.out.1.setHi rb)
          have hfz := (OwG.frozenAt HFV.out.1 (M0.length * 3 + 1))
          clear h pushed
          go_upto_region 7 with (fail)
          go_quiet (fail)
          go_wp2
          go_roundw
          case rel =>
            refine ⟨j + 1, some ⟨g1, 0, none⟩, c1, by omega, by go_num, by rw [HT.out, HJ.out]; simp, ?_⟩
            rw [HT.out, HJ.out, List.length_append, List.length_singleton]
            have hf := HFV.out
            have h2 := HOW2.out
            have ho : Off (fun _ => False) (V.setCell ⟨g1, M0.length * 3 + 1, none⟩ (.int .i64 rb)) ((V.drewN nq).setCell ⟨g1, M0.length * 3 + 1, none⟩ (.int .i64 rb)) := ⟨rfl, rfl, rfl, Nat.le_refl _, fun _ _ _ => rfl⟩
            refine ⟨h2.1.off ho (fun _ _ => id), ?_⟩
            exact hf.2.trans ((h2.2.trans (ho.mono fun _ => False.elim)).below (fun k e => by rw [e]; exact (hf.1.lt (k := g1) rfl).1) hf.2.size)
          case measure => simp [intOf]; omega
        · have heq : ∀ w, (Op.equalIn 10000 62 (.agg #[.int .i64 ya, .int .i64 yb, .int .i64 yp]) (.agg #[.int .i64 ya, .int .i64 ra, .int .i64 rp])).run Tryz.prog w = .ok false w := fun w => by
            rw [eq_rg ⟨ya, yb, yp⟩ ⟨ya, ra, rp⟩, decide_eq_false (by simp; intro e1 e2; exact h ⟨e1, e2⟩)]
          have HPU := Lib.hid (pushed.out (jn_no M0 ⟨ya, yb, yp⟩ _ h))
          clear pushed h
          go_upto_region 7 with (fail)
          go_quiet (fail)
          obtain ⟨A2, c2, w2, hr2, hf2⟩ := HPU.out (V.drewN nq) ⟨rfl, rfl, rfl, Nat.le_refl _, fun _ _ => rfl⟩
          have HF2 := Lib.hid hf2
          clear hf2
          go_wp2_with (at_builtin; go_must (refine wpList_append_run rfl (.tmp 45) (.tmp 47) 41 rfl _ _ rfl rfl hr2 ?_))
          go_roundw
          case rel => exact ⟨j + 1, A2, c2, by omega, by go_num, rfl, HF2.out⟩
          case measure => simp [intOf]; omega
    · obtain rfl : j = S.length := by omega
      have hjj : ¬ (S.length : Int) < (S.length : Int) := by omega
      rw [List.take_length, ← HR.out] at HF
      rw [List.take_length, ← HR.out]
      clear hjn hlen hlt hfr
      go_wp2
      go_ret
      refine ⟨_, _, rfl, ?_, ?_⟩
      · exact HF.out.1.low HOf.out.size
      · exact HOf.out.trans ((Off.of_below HF.out.2).mono fun _ => False.elim)
end Go.Proofs.YtlhfjaagkgengaaGreat
