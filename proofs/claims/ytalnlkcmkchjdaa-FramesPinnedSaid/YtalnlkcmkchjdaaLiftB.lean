/- An argument that is a list of bools, opened. -/
import Derived.Test.YtalnlkcmkchjdaaPinnedWalk
import Derived.Test.YtalnlkcmkchjdaaLift
namespace Go.Proofs.Ytalnlkcmkchjdaa
open Go.ChangeShapes Go.WideShapes Go.ChangeAt Go.RowKit Go.Joins Go.Deep
set_option linter.unusedVariables false
set_option linter.unusedSimpArgs false

theorem cellsBool : Try.prog.cellsOf 4 = 1 := by kernel_rfl
theorem SBo_of {H : Type} {enc : TypeId × Value → H} {w : World} {A : Option Addr} {n c : Nat} {d : DataW H} {p : List MemPlace} (h : DataW.Trod enc Try.prog w 0 (fun _ => true) true 35 (.slice A n c) d p) : n ≤ maxLen ∧ ∃ G, SBo w A n G := by
  obtain ⟨hm, hr⟩ := rows_of Try.underlying35 (by rw [cellsBool]; omega) h
  refine ⟨hm, ?_⟩
  rcases Nat.eq_zero_or_pos n with h0 | hp
  · exact ⟨fun _ => false, fun h => by omega⟩
  obtain ⟨b, o, rfl, hb, hc⟩ := hr hp
  have hall : ∀ k, ∃ x : Bool, k < n → w.cell? ⟨b, o + k, none⟩ = some (.bool x) := by
    intro k
    by_cases hk : k < n
    · obtain ⟨cs, m, x, hlen, ht, hat⟩ := hc k hk
      rw [cellsBool] at hat hlen
      match cs, hlen with
      | [v], _ =>
        obtain ⟨f, k3, _⟩ := DataW.trod_bool Try.underlying4 ht
        simp at k3
        subst k3
        have := hat 0 (by omega)
        simp at this
        exact ⟨f, fun _ => this⟩
    · exact ⟨false, fun h => absurd h hk⟩
  exact ⟨fun k => Classical.choose (hall k), fun _ => ⟨b, o, rfl, hb, fun k hk => Classical.choose_spec (hall k) hk⟩⟩
end Go.Proofs.Ytalnlkcmkchjdaa
