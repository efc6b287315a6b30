/- Arguments opened: bytes, a list of pairs. -/
import Derived.Test.YtgkdggidgaifhaaMB
import Derived.Test.YtgkdggidgaifhaaLift
namespace Go.Proofs.Ytgkdggidgaifhaa
open Go.ChangeShapes Go.WideShapes Go.ChangeAt Go.RowKit Go.Joins Go.Deep
set_option linter.unusedVariables false
set_option linter.unusedSimpArgs false

theorem cellsU8 : Try.prog.cellsOf 5 = 1 := by kernel_rfl
theorem cellsPair : Try.prog.cellsOf 59 = 2 := by kernel_rfl
section
variable {H : Type} {enc : TypeId × Value → H} {w : World}
/-- A slice of bytes that came in. -/
theorem open_by {A : Option Addr} {n c fuel : Nat} {x : DataW H × List MemPlace} (h : DataW.trod enc Try.prog w 0 (fun _ => true) true fuel 38 [.slice A n c] = some x) :
    n ≤ c ∧ n ≤ maxLen ∧ ∃ L, SBy w A n L := by
  rcases open_slice1 Try.underlying38 cellsU8 h with ⟨h0, h1⟩ | ⟨a, len, cap, m, n', V, D, Pl, hcs, _, hl, hm, hmm, hx, hi⟩
  · simp at h0
    obtain ⟨rfl, rfl, rfl⟩ := h0
    exact ⟨Nat.le_refl _, by unfold maxLen; omega, [], SBy.nil _ _⟩
  · simp at hcs
    obtain ⟨rfl, rfl, rfl⟩ := hcs
    have hlm : n ≤ m := by rw [hmm]; split <;> omega
    have hV : ∀ i, i < n → ∃ k : Nat, k < 256 ∧ V i = .int .u8 (k : Nat) := fun i hlt => by
      obtain ⟨a', ha, hd, hw⟩ := DataW.trod_int Try.underlying5 (hi i (by omega)).2
      simp at ha
      have hb : 0 ≤ a' ∧ a' ≤ 255 := by simpa [Lit.wf, IntKind.min, IntKind.max, IntKind.signed, IntKind.bits] using hw
      exact ⟨a'.toNat, by omega, by rw [ha, Int.toNat_of_nonneg hb.1]⟩
    refine ⟨hl, by omega, (List.range n).map (fun i => if h : i < n then b8 (Classical.choose (hV i h)) else 0), by simp, fun hp => ?_⟩
    have hspot : a.spot = none ∧ a.block < w.heap.size := by
      have h0 := (hi 0 (by omega)).1
      have e1 : a.add 0 = a := by simp [Addr.add]
      rw [e1] at h0
      refine ⟨World.cell?_spot h0, ?_⟩
      rcases Nat.lt_or_ge a.block w.heap.size with h1 | h1
      · exact h1
      · simp [World.cell?, Array.getElem?_eq_none h1] at h0
    obtain ⟨b, o, spot⟩ := a
    obtain ⟨rfl, hb⟩ := hspot
    refine ⟨b, o, rfl, hb, fun k hk => ?_⟩
    have h1 := (hi k (by omega)).1
    rw [add_plain] at h1
    rw [h1]
    have hs := Classical.choose_spec (hV k hk)
    have he : at8 ((List.range n).map (fun i => if h : i < n then b8 (Classical.choose (hV i h)) else 0)) k = Classical.choose (hV k hk) := by
      rw [at8_get (by simpa using hk)]
      simp only [List.getElem_map, List.getElem_range, hk, dite_true]
      exact b8_lt hs.1
    rw [he]
    exact congrArg some hs.2
/-- A list of pairs that came in. -/
theorem open_prs {A : Option Addr} {n c : Nat} {d : DataW H} {p : List MemPlace} (h : DataW.Trod enc Try.prog w 0 (fun _ => true) true 22 (.slice A n c) d p) : n ≤ maxLen ∧ ∃ b, Prs w A n b := by
  obtain ⟨hm, hr⟩ := rows_of Try.underlying22 (by rw [cellsPair]; omega) h
  refine ⟨hm, ?_⟩
  rcases Nat.eq_zero_or_pos n with h0 | hp
  · exact ⟨fun _ => ⟨0, none, 0, 0, []⟩, fun h => by omega⟩
  obtain ⟨bl, o, rfl, hb, hc⟩ := hr hp
  have hall : ∀ k, ∃ l : PArg, k < n → w.cell? ⟨bl, o + k * 2, none⟩ = some (.int .i64 l.key) ∧ w.cell? ⟨bl, o + k * 2 + 1, none⟩ = some l.v ∧ l.In w := by
    intro k
    by_cases hk : k < n
    · obtain ⟨cs, m, x, hlen, ht, hat⟩ := hc k hk
      rw [cellsPair] at hat
      have g := field_of Try.underlying59 (by kernel_rfl) cellsPair ht
      obtain ⟨v0, y0, m0, e0, t0⟩ := g 0 _ rfl
      obtain ⟨v1, y1, m1, e1, t1⟩ := g 1 _ rfl
      obtain ⟨s, k0, _, hw⟩ := DataW.trod_int Try.underlying3 t0
      simp at k0
      subst k0
      have hs : -9223372036854775808 ≤ s ∧ s ≤ 9223372036854775807 := by simpa [Lit.wf, IntKind.min, IntKind.max, IntKind.signed, IntKind.bits] using hw
      have hform : ∃ A1 n1 c1, v1 = .slice A1 n1 c1 := by
        rcases open_slice1 Try.underlying38 cellsU8 t1 with ⟨h0, _⟩ | ⟨a, len, cap, _, _, _, _, _, hcs, _⟩
        · simp at h0
          exact ⟨_, _, _, h0⟩
        · simp at hcs
          exact ⟨_, _, _, hcs⟩
      obtain ⟨A1, n1, c1, rfl⟩ := hform
      obtain ⟨j1, j2, L, j3⟩ := open_by t1
      exact ⟨⟨s, A1, n1, c1, L⟩, fun _ => ⟨(hat 0 (by omega)).trans e0, (hat 1 (by omega)).trans e1, j3, j1, hs.1, hs.2⟩⟩
    · exact ⟨⟨0, none, 0, 0, []⟩, fun h => absurd h hk⟩
  exact ⟨fun k => Classical.choose (hall k), fun _ => ⟨bl, o, rfl, hb, fun k hk => Classical.choose_spec (hall k) hk⟩⟩
end
end Go.Proofs.Ytgkdggidgaifhaa
