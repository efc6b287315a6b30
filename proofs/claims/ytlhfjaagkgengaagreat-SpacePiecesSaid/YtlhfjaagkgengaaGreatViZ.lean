/- A space: which slots name pages that are not there; Of. -/
import Derived.Test.YtlhfjaagkgengaaGreatVhZ
namespace Go.Proofs.YtlhfjaagkgengaaGreat
open Go.RowKit Go.Maps
set_option linter.unusedVariables false
set_option linter.unusedSimpArgs false
def i64R (k : Int) : Prop := -9223372036854775808 ≤ k ∧ k ≤ 9223372036854775807
def slQ (q : Int × Int → Bool) (l : List (Int × Int)) (i : Nat) : Bool := match l[i]? with
  | none => false
  | some x => q x
section
variable {w : World} {fn : FuncId} {lb : Array Value} {q : Int × Int → Bool} {B : Option Addr} {c : Nat} {l : List (Int × Int)}
set_option maxHeartbeats 1000000 in
theorem indexS_any (hcf : ∀ (args : Array Value) (w : World), (callFunc fn args).run Tryz.prog w = .ok (.enter fn args) w) (hl : EAt slE w B l) (hn : l.length ≤ 100000) (a0 : Value)
    (hf : ∀ (x : Int × Int) (V : World), x ∈ l → Below w.heap.size w V → Calls Tryz.prog fn #[.agg #[.int .i64 x.1, .int .i64 x.2], a0] V fun e w' => e = .returned (.bool (q x)) ∧ Below V.heap.size V w') :
    Calls Tryz.prog 121 #[.slice B l.length c, .func (.func fn) #[] #[a0]] w fun e w' => e = .returned (.int .i64 (first (slQ q l) l.length)) ∧ Below w.heap.size w w' := by
  have HH := Lib.hid hf
  have HL := Lib.hid hl
  clear hf hl
  go_enter Tryz.func121, Tryz.ntmps121
  go_wp2
  go_loopw [8] (fun i wr => ∃ k : Nat, k ≤ l.length ∧ i = .int .i64 (k : Nat) ∧ (∀ j, j < k → slQ q l j = false) ∧ Below w.heap.size w wr) (fun i _ => l.length - (intOf i).toNat)
  case atStart => exact ⟨0, Nat.zero_le _, rfl, fun j h => by omega, Below.refl _ _⟩
  case round =>
    obtain ⟨k, hk, rfl, hno, hb⟩ := hrel
    have HN := Lib.hid hno
    have HB := Lib.hid hb
    by_cases hlt : k < l.length
    · obtain ⟨x, hx⟩ : ∃ x, l[k]? = some x := ⟨_, List.getElem?_eq_getElem hlt⟩
      obtain ⟨g, o, hA, hg, hc⟩ := (HL.out.up hb).at_ (by omega)
      obtain ⟨q0, q1⟩ := EAt.sl hc hx
      have hI : (k : Int) < (l.length : Int) := by omega
      rw [hA]
      have HA := Lib.hid hA
      have hqe : slQ q l k = q x := by unfold slQ; rw [hx]
      have HQE := Lib.hid hqe
      have HM := Lib.hid (List.mem_of_getElem? hx)
      clear hno hb hc hA hx hqe
      go_wp2_with fail
      refine (HH.out x _ HM.out HB.out).mono ?_
      rintro e w1 ⟨rfl, hb1⟩
      have HB1 := Lib.hid (HB.out.trans (hb1.mono HB.out.size))
      clear hb1
      cases hq : q x
      · go_wp2
        go_roundw
        case rel =>
          refine ⟨k + 1, by omega, by go_num, fun j hj => ?_, HB1.out⟩
          rcases Nat.lt_or_ge j k with h | h
          · exact HN.out j h
          · obtain rfl : j = k := by omega
            rw [HQE.out]; exact hq
        case measure => simp [intOf]; omega
      · go_wp2
        go_ret
        exact ⟨by rw [first_is (q := slQ q l) hlt (by rw [HQE.out]; exact hq) HN.out]; rfl, HB1.out⟩
    · have hI : ¬ (k : Int) < (l.length : Int) := by omega
      clear hno hb
      go_wp2
      go_ret
      exact ⟨by rw [first_none (q := slQ q l) (fun i hi => HN.out i (by omega))]; rfl, HB.out⟩
set_option maxHeartbeats 1000000 in
theorem containsS_any (hcf : ∀ (args : Array Value) (w : World), (callFunc fn args).run Tryz.prog w = .ok (.enter fn args) w) (hl : EAt slE w B l) (hn : l.length ≤ 100000) (a0 : Value)
    (hf : ∀ (x : Int × Int) (V : World), x ∈ l → Below w.heap.size w V → Calls Tryz.prog fn #[.agg #[.int .i64 x.1, .int .i64 x.2], a0] V fun e w' => e = .returned (.bool (q x)) ∧ Below V.heap.size V w') :
    Calls Tryz.prog 75 #[.slice B l.length c, .func (.func fn) #[] #[a0]] w fun e w' => e = .returned (.bool (l.any q)) ∧ Below w.heap.size w w' := by
  have HC := Lib.hid (indexS_any (c := c) hcf hl hn a0 hf)
  have hany : decide (0 ≤ first (slQ q l) l.length) = l.any q := by
    rcases first_spec (slQ q l) l.length with ⟨h1, h2⟩ | ⟨j, h1, h2, h3, _⟩
    · rw [h1]
      have : l.any q = false := by
        rw [List.any_eq_false]
        intro x hx
        obtain ⟨i, hi⟩ := List.mem_iff_getElem?.1 hx
        have := h2 i (List.getElem?_eq_some_iff.1 hi).1
        unfold slQ at this
        rw [hi] at this
        simp at this
        simp [this]
      rw [this]
      rfl
    · rw [h1, decide_eq_true (by omega)]
      symm
      rw [List.any_eq_true]
      unfold slQ at h3
      cases hx : l[j]? with
      | none => rw [hx] at h3; cases h3
      | some x => rw [hx] at h3; exact ⟨x, List.mem_of_getElem? hx, h3⟩
  have HA := Lib.hid hany
  obtain ⟨z, hz⟩ : ∃ z, first (slQ q l) l.length = z := ⟨_, rfl⟩
  rw [hz] at HC HA
  clear hcf hl hf hany hz
  go_enter Tryz.func75, Tryz.ntmps75
  go_wp2_with fail
  refine HC.out.mono ?_
  rintro e w1 ⟨rfl, hb1⟩
  have HB1 := Lib.hid hb1
  clear hb1
  by_cases h0 : 0 ≤ z
  · have hd : decide (0 ≤ z) = true := decide_eq_true h0
    go_wp2
    go_ret
    exact ⟨by rw [← HA.out, hd] <;> rfl, HB1.out⟩
  · have hd : decide (0 ≤ z) = false := decide_eq_false h0
    go_wp2
    go_ret
    exact ⟨by rw [← HA.out, hd] <;> rfl, HB1.out⟩
end
section
variable {σ : Type} {K : SnkF σ} {M : Snk K} {P : PSnk K} {w w' w1 w2 w3 wr : World} {d : PD} {t t' t1 t2 t3 : PSt σ} {C C' C1 : Cu} {k k1 k2 : Nat}
theorem of1_any (h : Pv M P w d t C k) {bp : Nat} (cb : w.cell? ⟨bp, 0, none⟩ = some (.pointer (some ⟨d.Q, 0, none⟩))) (x : Int × Int) (hx : i64R x.2) :
    Calls Tryz.prog 76 #[.agg #[.int .i64 x.1, .int .i64 x.2], .pointer (some ⟨bp, 0, none⟩)] w fun e w' => e = .returned (.bool (C x.2).isNone) ∧ Below w.heap.size w w' := by
  obtain ⟨xa, xi⟩ := x
  simp only at hx
  have H := Lib.hid h
  have lb := lt_of_cell cb
  have HX := Lib.hid hx
  clear h hx
  go_enter Tryz.func76, Tryz.ntmps76
  go_upto_region 1 with (fail)
  refine wp_forget (fun V => Below w.heap.size w V ∧ V.cell? ⟨w.heap.size, 1, none⟩ = some (.int .i64 xi) ∧ w.heap.size < V.heap.size) ⟨(Below.refl _ _).alloc (Nat.le_refl _) _, alloc_cells _ _ _ 1 _ rfl, by simp⟩ ?_
  rintro V ⟨hb, c1, hs⟩
  have cb2 := (hb.cell (p := ⟨bp, 0, none⟩) lb).trans cb
  have lb2 := lt_of_cell cb2
  have HB := Lib.hid hb
  have HP := Lib.hid (pv_has (H.out.up hb) HX.out)
  obtain ⟨bx, hbx⟩ : ∃ g, w.heap.size = g := ⟨_, rfl⟩
  rw [hbx] at c1 hs
  rw [hbx]
  have HBX := Lib.hid hbx
  clear hb hbx cb
  go_wp2_with (go_at_call 77; go_loud (refine HP.out.mono ?_; rintro e w1 ⟨rfl, rfl⟩))
  go_ret
  exact ⟨rfl, HB.out⟩
end
end Go.Proofs.YtlhfjaagkgengaaGreat
