/- Arguments opened: a shape, ints. -/
import Derived.Test.YtlhfjaagkgengaaGreatWkZ
import Derived.Test.YtlhfjaagkgengaaGreatLiftPZ
namespace Go.Proofs.YtlhfjaagkgengaaGreat
open Go.ChangeShapes Go.WideShapes Go.ChangeAt Go.RowKit Go.Joins Go.Deep
set_option linter.unusedVariables false
set_option linter.unusedSimpArgs false
theorem cellsCfg : Tryz.prog.cellsOf 23 = 9 := by kernel_rfl
section
variable {H : Type} {enc : TypeId × Value → H} {w : World}
set_option maxRecDepth 100000 in
theorem open_cfg {base : Nat} {v : Value} {d : DataW H} {p : List MemPlace} (hv : Value.okWide Tryz.prog w .any base 23 v) (h : DataW.Trod enc Tryz.prog w 0 (fun _ => true) true 23 v d p) :
    ∃ a0 a1 a2 a3 a4 a5 a6 a7 a8 : Int, v = .agg #[.int .i64 a0, .int .i64 a1, .int .i64 a2, .int .i64 a3, .int .i64 a4, .int .i64 a5, .int .i64 a6, .int .i64 a7, .int .i64 a8] := by
  obtain ⟨cs, rfl, hsz⟩ := okWide_struct Tryz.underlying23 hv
  rw [cellsCfg] at hsz
  obtain ⟨m, hm⟩ := h
  have g := field_of Tryz.underlying23 (by kernel_rfl) cellsCfg hm
  have gi : ∀ j, j < 9 → ∃ a : Int, cs[j]? = some (.int .i64 a) := fun j hj => by
    have key : ∀ f, (_ : Array Field)[j]? = some f → f.type = 3 → ∃ a : Int, cs[j]? = some (.int .i64 a) := fun f hf ht => by
      obtain ⟨v, y, m', hc, ht'⟩ := g j f hf
      rw [ht] at ht'
      obtain ⟨a, ha, _⟩ := DataW.trod_int Tryz.underlying3 ht'
      simp at ha
      subst ha
      exact ⟨a, by simpa [Value.cells] using hc⟩
    match j, hj with
    | 0, _ => exact key _ rfl rfl
    | 1, _ => exact key _ rfl rfl
    | 2, _ => exact key _ rfl rfl
    | 3, _ => exact key _ rfl rfl
    | 4, _ => exact key _ rfl rfl
    | 5, _ => exact key _ rfl rfl
    | 6, _ => exact key _ rfl rfl
    | 7, _ => exact key _ rfl rfl
    | 8, _ => exact key _ rfl rfl
  obtain ⟨a0, h0⟩ := gi 0 (by omega)
  obtain ⟨a1, h1⟩ := gi 1 (by omega)
  obtain ⟨a2, h2⟩ := gi 2 (by omega)
  obtain ⟨a3, h3⟩ := gi 3 (by omega)
  obtain ⟨a4, h4⟩ := gi 4 (by omega)
  obtain ⟨a5, h5⟩ := gi 5 (by omega)
  obtain ⟨a6, h6⟩ := gi 6 (by omega)
  obtain ⟨a7, h7⟩ := gi 7 (by omega)
  obtain ⟨a8, h8⟩ := gi 8 (by omega)
  refine ⟨a0, a1, a2, a3, a4, a5, a6, a7, a8, ?_⟩
  refine congrArg Value.agg ?_
  apply Array.ext_getElem?
  intro i
  match i with
  | 0 => exact h0
  | 1 => exact h1
  | 2 => exact h2
  | 3 => exact h3
  | 4 => exact h4
  | 5 => exact h5
  | 6 => exact h6
  | 7 => exact h7
  | 8 => exact h8
  | i + 9 =>
    rw [Array.getElem?_eq_none (by omega), Array.getElem?_eq_none (by simp)]
set_option maxRecDepth 100000 in
theorem open_cfgF {base : Nat} {v : Value} {d : DataW H} {p : List MemPlace} (hv : Value.okWide Tryz.prog w .any base 23 v) (h : DataW.Trod enc Tryz.prog w 0 (fun _ => true) true 23 v d p) : ∃ cf : Nat → Int, v = cfgV cf := by
  obtain ⟨a0, a1, a2, a3, a4, a5, a6, a7, a8, rfl⟩ := open_cfg hv h
  exact ⟨fun i => ([a0, a1, a2, a3, a4, a5, a6, a7, a8] : List Int).getD i 0, by unfold cfgV; rfl⟩
/-- A slice of ints that came in. -/
theorem open_ints {A : Option Addr} {n c : Nat} {d : DataW H} {p : List MemPlace} (h : DataW.Trod enc Tryz.prog w 0 (fun _ => true) true 25 (.slice A n c) d p) : ∃ js : List Int, JAt w A js ∧ n = js.length ∧ ∀ x ∈ js, -9223372036854775808 ≤ x ∧ x ≤ 9223372036854775807 := by
  obtain ⟨hm, hr⟩ := rows_of Tryz.underlying25 (by rw [cellsInt]; omega) h
  rcases Nat.eq_zero_or_pos n with h0 | hp
  · exact ⟨[], ⟨fun h => by simp at h⟩, h0, fun x hx => by cases hx⟩
  obtain ⟨b, o, rfl, hb, hc⟩ := hr hp
  have hall : ∀ k, ∃ x : Int, k < n → w.cell? ⟨b, o + k, none⟩ = some (.int .i64 x) ∧ -9223372036854775808 ≤ x ∧ x ≤ 9223372036854775807 := by
    intro k
    by_cases hk : k < n
    · obtain ⟨cs, m, x, hlen, ht, hat⟩ := hc k hk
      rw [cellsInt] at hat hlen
      match cs, hlen with
      | [v], _ =>
        obtain ⟨f, k3, _, hw⟩ := DataW.trod_int Tryz.underlying3 ht
        simp at k3
        subst k3
        have := hat 0 (by omega)
        simp at this
        exact ⟨f, fun _ => ⟨this, by simpa [Lit.wf, IntKind.min, IntKind.max, IntKind.signed, IntKind.bits] using hw⟩⟩
    · exact ⟨0, fun h => absurd h hk⟩
  refine ⟨(List.range n).map fun k => Classical.choose (hall k), ⟨fun _ => ⟨b, o, rfl, hb, fun i x hx => ?_⟩⟩, by simp, fun x hx => ?_⟩
  · rw [List.getElem?_map] at hx
    by_cases hi : i < n
    · rw [List.getElem?_range hi] at hx
      injection hx with e
      rw [← e]
      exact (Classical.choose_spec (hall i) hi).1
    · rw [List.getElem?_eq_none (by simp; omega)] at hx
      cases hx
  · rw [List.mem_map] at hx
    obtain ⟨k, hk, rfl⟩ := hx
    rw [List.mem_range] at hk
    exact (Classical.choose_spec (hall k) hk).2
end
end Go.Proofs.YtlhfjaagkgengaaGreat
