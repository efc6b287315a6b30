/- An argument that is a list of ints, opened. -/
import Derived.Test.YteckbhpjhohanaaSA
import Derived.Test.YteckbhpjhohanaaLift
namespace Go.Proofs.Yteckbhpjhohanaa
open Go.ChangeShapes Go.WideShapes Go.ChangeAt Go.RowKit Go.Joins Go.Deep
set_option linter.unusedVariables false
set_option linter.unusedSimpArgs false

theorem cellsInt : Try.prog.cellsOf 3 = 1 := by kernel_rfl
theorem SI_of {H : Type} {enc : TypeId × Value → H} {w : World} {A : Option Addr} {n c : Nat} {d : DataW H} {p : List MemPlace} (h : DataW.Trod enc Try.prog w 0 (fun _ => true) true 22 (.slice A n c) d p) : n ≤ maxLen ∧ ∃ G, SI w A n G := by
  obtain ⟨hm, hr⟩ := rows_of Try.underlying22 (by rw [cellsInt]; omega) h
  refine ⟨hm, ?_⟩
  rcases Nat.eq_zero_or_pos n with h0 | hp
  · exact ⟨fun _ => 0, fun h => by omega⟩
  obtain ⟨b, o, rfl, hb, hc⟩ := hr hp
  have hall : ∀ k, ∃ x : Int, k < n → w.cell? ⟨b, o + k, none⟩ = some (.int .i64 x) := by
    intro k
    by_cases hk : k < n
    · obtain ⟨cs, m, x, hlen, ht, hat⟩ := hc k hk
      rw [cellsInt] at hat hlen
      match cs, hlen with
      | [v], _ =>
        obtain ⟨f, k3, _⟩ := DataW.trod_int Try.underlying3 ht
        simp at k3
        subst k3
        have := hat 0 (by omega)
        simp at this
        exact ⟨f, fun _ => this⟩
    · exact ⟨0, fun h => absurd h hk⟩
  exact ⟨fun k => Classical.choose (hall k), fun _ => ⟨b, o, rfl, hb, fun k hk => Classical.choose_spec (hall k) hk⟩⟩
end Go.Proofs.Yteckbhpjhohanaa
