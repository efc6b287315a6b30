/- Arguments opened: bytes. -/
import Derived.Test.YtlhfjaagkgengaaGreatMA
import Derived.Test.YtlhfjaagkgengaaGreatLiftZ
namespace Go.Proofs.YtlhfjaagkgengaaGreat
open Go.ChangeShapes Go.WideShapes Go.ChangeAt Go.RowKit Go.Joins Go.Deep
set_option linter.unusedVariables false
set_option linter.unusedSimpArgs false

theorem cellsU8 : Tryz.prog.cellsOf 5 = 1 := by kernel_rfl
section
variable {H : Type} {enc : TypeId × Value → H} {w : World}
/-- A slice of bytes that came in. -/
theorem open_by {A : Option Addr} {n c fuel : Nat} {x : DataW H × List MemPlace} (h : DataW.trod enc Tryz.prog w 0 (fun _ => true) true fuel 24 [.slice A n c] = some x) :
    n ≤ c ∧ n ≤ maxLen ∧ ∃ L, SBy w A n L := by
  rcases open_slice1 Tryz.underlying24 cellsU8 h with ⟨h0, h1⟩ | ⟨a, len, cap, m, n', V, D, Pl, hcs, _, hl, hm, hmm, hx, hi⟩
  · simp at h0
    obtain ⟨rfl, rfl, rfl⟩ := h0
    exact ⟨Nat.le_refl _, by unfold maxLen; omega, [], SBy.nil _ _⟩
  · simp at hcs
    obtain ⟨rfl, rfl, rfl⟩ := hcs
    have hlm : n ≤ m := by rw [hmm]; split <;> omega
    have hV : ∀ i, i < n → ∃ k : Nat, k < 256 ∧ V i = .int .u8 (k : Nat) := fun i hlt => by
      obtain ⟨a', ha, hd, hw⟩ := DataW.trod_int Tryz.underlying5 (hi i (by omega)).2
      simp at ha
      have hb : 0 ≤ a' ∧ a' ≤ 255 := by simpa [Lit.wf, IntKind.min, IntKind.max, IntKind.signed, IntKind.bits] using hw
      exact ⟨a'.toNat, by omega, by rw [ha, Int.toNat_of_nonneg hb.1]⟩
    refine ⟨hl, by omega, (List.range n).map (fun i => if h : i < n then b8 (Classical.choose (hV i h)) else 0), by simp, fun hp => ?_⟩
    have hspot : a.spot = none ∧ a.block < w.heap.size := by
      have h0 := (hi 0 (by omega)).1
      have e1 : a.add 0 = a := by simp [Addr.add]
      rw [e1] at h0
      refine ⟨World.cell?_spot h0, ?_⟩
      rcases Nat.lt_or_ge a.block w.heap.size with h1 | h1
      · exact h1
      · simp [World.cell?, Array.getElem?_eq_none h1] at h0
    obtain ⟨b, o, spot⟩ := a
    obtain ⟨rfl, hb⟩ := hspot
    refine ⟨b, o, rfl, hb, fun k hk => ?_⟩
    have h1 := (hi k (by omega)).1
    rw [add_plain] at h1
    rw [h1]
    have hs := Classical.choose_spec (hV k hk)
    have he : at8 ((List.range n).map (fun i => if h : i < n then b8 (Classical.choose (hV i h)) else 0)) k = Classical.choose (hV k hk) := by
      rw [at8_get (by simpa using hk)]
      simp only [List.getElem_map, List.getElem_range, hk, dite_true]
      exact b8_lt hs.1
    rw [he]
    exact congrArg some hs.2
end
end Go.Proofs.YtlhfjaagkgengaaGreat
