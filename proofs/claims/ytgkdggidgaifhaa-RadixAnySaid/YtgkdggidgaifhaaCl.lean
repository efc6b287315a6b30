/- slices.Clone, bytes.Equal (out of blobs/XCc). -/
import Derived.Test.YtgkdggidgaifhaaIv
namespace Go.Proofs.Ytgkdggidgaifhaa
open Go.RowKit
set_option linter.unusedVariables false
set_option linter.unusedSimpArgs false

set_option maxRecDepth 100000 in
set_option maxHeartbeats 1000000 in
theorem clone_any (w : World) (A : Option Addr) (n c : Nat) (L : Bytes) (hL : SBy w A n L) (hn : n ≤ 2 ^ 40) :
    Calls Try.prog 45 #[.slice A n c] w fun e w' => ∃ A' c', e = .returned (.slice A' n c') ∧ FrB w w' (.slice A' n c') L ∧ (0 < n → ∃ b, A' = some ⟨b, 0, none⟩) := by
  have heq := fun (w : World) (a : Option Addr) (n c : Nat) => Lib.run_eql_slice_nil (P := Try.prog) w 38 5 a n c 0 0 Try.underlying38
  have HL := Lib.hid hL
  cases A with
  | none =>
    obtain rfl : n = 0 := by
      rcases Nat.eq_zero_or_pos n with h | h
      · exact h
      · obtain ⟨b, o, h, _⟩ := hL.2 h
        cases h
    have : L = [] := by simpa using hL.1
    subst this
    clear hL HL
    go_enter Try.func45, Try.ntmps45
    go_wp2
    go_ret
    exact ⟨_, _, rfl, FrB.empty w, fun h => by omega⟩
  | some a =>
    clear hL
    go_enter Try.func45, Try.ntmps45
    go_wp2_with (at_builtin; go_must (refine wpList_appF rfl (.tmp 5) (.tmp 6) rfl w (.slice (some ⟨w.heap.size, 0, none⟩) 0 0) [] L rfl (FrB.lit w) (some a) n c rfl (HL.out.alloc _) (by simp; omega) n (by simp) ?_); intro A' c' w1 h1 hg)
    have H1 := Lib.hid h1
    clear h1 hg
    go_wp2
    go_ret
    refine ⟨_, _, rfl, by simpa using H1.out, fun h => ?_⟩
    obtain ⟨g, cap, hv, _⟩ := World.ownsRow.form H1.out.own (by simpa [HL.out.1] using h)
    cases hv
    exact ⟨_, rfl⟩

set_option maxRecDepth 100000 in
theorem equal_any (w : World) (A B : Option Addr) (n c m d : Nat) (L M : Bytes) (hL : SBy w A n L) (hM : SBy w B m M) :
    Calls Try.prog 49 #[.slice A n c, .slice B m d] w fun e w' => e = .returned (.bool (decide (L = M))) ∧ w' = w := by
  have s1 := hL.str c
  have s2 := hM.str d
  go_enter Try.func49, Try.ntmps49
  go_wp2
  go_ret
  exact ⟨by rw [← strB_eq]; rfl, rfl⟩
end Go.Proofs.Ytgkdggidgaifhaa
