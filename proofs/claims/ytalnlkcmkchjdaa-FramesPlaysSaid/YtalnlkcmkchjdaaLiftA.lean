/- An argument that is a list of acts, opened. -/
import Derived.Test.YtalnlkcmkchjdaaKB
import Derived.Test.YtalnlkcmkchjdaaLift
namespace Go.Proofs.Ytalnlkcmkchjdaa
open Go.ChangeShapes Go.WideShapes Go.ChangeAt Go.RowKit Go.Joins Go.Deep
set_option linter.unusedVariables false
set_option linter.unusedSimpArgs false

theorem cellsAct : Try.prog.cellsOf 43 = 4 := by kernel_rfl

theorem SA_of {H : Type} {enc : TypeId × Value → H} {w : World} {A : Option Addr} {n c : Nat} {d : DataW H} {p : List MemPlace} (h : DataW.Trod enc Try.prog w 0 (fun _ => true) true 40 (.slice A n c) d p) : n ≤ maxLen ∧ ∃ L, SA w A n L := by
  obtain ⟨hm, hr⟩ := rows_of Try.underlying40 (by rw [cellsAct]; omega) h
  refine ⟨hm, ?_⟩
  rcases Nat.eq_zero_or_pos n with h0 | hp
  · exact ⟨fun _ => ⟨0, 0, 0, false⟩, fun h => by omega⟩
  obtain ⟨b, o, rfl, hb, hc⟩ := hr hp
  have hall : ∀ k, ∃ l : Ac, k < n → (Lit.int .i64 l.key).wf = true ∧ w.cell? ⟨b, o + k * 4, none⟩ = some (.int .i64 l.op) ∧ w.cell? ⟨b, o + k * 4 + 1, none⟩ = some (.int .i64 l.key) ∧ w.cell? ⟨b, o + k * 4 + 2, none⟩ = some (.int .i64 l.frame) ∧ w.cell? ⟨b, o + k * 4 + 3, none⟩ = some (.bool l.write) := by
    intro k
    by_cases hk : k < n
    · obtain ⟨cs, m, x, hlen, ht, hat⟩ := hc k hk
      rw [cellsAct] at hat
      have g := field_of Try.underlying43 (by kernel_rfl) cellsAct ht
      obtain ⟨v0, y0, m0, e0, t0⟩ := g 0 _ rfl
      obtain ⟨v1, y1, m1, e1, t1⟩ := g 1 _ rfl
      obtain ⟨v2, y2, m2, e2, t2⟩ := g 2 _ rfl
      obtain ⟨v3, y3, m3, e3, t3⟩ := g 3 _ rfl
      obtain ⟨s, k0, _, _⟩ := DataW.trod_int Try.underlying3 t0
      obtain ⟨u, k1, _, hw⟩ := DataW.trod_int Try.underlying3 t1
      obtain ⟨z, k2, _, _⟩ := DataW.trod_int Try.underlying3 t2
      obtain ⟨f, k3, _⟩ := DataW.trod_bool Try.underlying4 t3
      simp at k0 k1 k2 k3
      subst k0 k1 k2 k3
      exact ⟨⟨s, u, z, f⟩, fun _ => ⟨hw, (hat 0 (by omega)).trans e0, (hat 1 (by omega)).trans e1, (hat 2 (by omega)).trans e2, (hat 3 (by omega)).trans e3⟩⟩
    · exact ⟨⟨0, 0, 0, false⟩, fun h => absurd h hk⟩
  exact ⟨fun k => Classical.choose (hall k), fun _ => ⟨b, o, rfl, hb, fun k hk => Classical.choose_spec (hall k) hk⟩⟩

end Go.Proofs.Ytalnlkcmkchjdaa
