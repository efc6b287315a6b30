/- radix: digits of keys. -/
import Derived.Test.YtgkdggidgaifhaaCl
import Derived.Test.YtgkdggidgaifhaaHeap
import Derived.Test.YtgkdggidgaifhaaReg
namespace Go.Proofs.Ytgkdggidgaifhaa
open Go.RowKit
set_option linter.unusedVariables false
set_option linter.unusedSimpArgs false

/-- A key's digit at a level; its digits ahead of a level. -/
def digN (k l : Nat) : Nat := k / 16 ^ (5 - l) % 16
def frontN (k l : Nat) : Nat := k / 16 ^ (6 - l)
theorem digN_lt (k l : Nat) : digN k l < 16 := Nat.mod_lt _ (by omega)
theorem and15 (j : Nat) (h : j < 9223372036854775808) : bits .and .i64 (j : Int) 15 = ((j % 16 : Nat) : Int) := by
  have h1 := (bits_nat .i64 63 (by decide) (fun n h0 h1 => IntWalk.i64_in _ (by have : (2 : Int) ^ 63 = 9223372036854775808 := (by decide); omega)) j 15 (by omega) (by omega)).1
  rw [show ((15 : Nat) : Int) = 15 by rfl] at h1
  rw [h1]
  congr 1
  exact Nat.and_two_pow_sub_one_eq_mod j 4
set_option maxRecDepth 100000 in
theorem digit_any (w : World) {k l : Nat} (hk : k < 9223372036854775808) (hl : l ≤ 5) : Calls Try.prog 39 #[.int .i64 (k : Nat), .int .i64 (l : Nat)] w fun e w' => e = .returned (.int .i64 (digN k l : Nat)) ∧ w' = w := by
  obtain ⟨q, hq⟩ : ∃ q, q = k / 16 ^ (5 - l) := ⟨_, rfl⟩
  have hqk : q ≤ k := by rw [hq]; exact Nat.div_le_self _ _
  have hd : digN k l = q % 16 := by rw [hq]; rfl
  have h15 := and15 q (by omega)
  have hs : (k : Int) / 2 ^ (4 * (5 - l)) = (q : Int) := by
    rw [hq, show (16 : Nat) ^ (5 - l) = 2 ^ (4 * (5 - l)) by rw [Nat.pow_mul]]
    simp
  obtain ⟨r, hr⟩ : ∃ r, r = q % 16 := ⟨_, rfl⟩
  rw [← hr] at h15 hd
  rw [hd]
  clear hq hd hr hqk
  have hc : l = 0 ∨ l = 1 ∨ l = 2 ∨ l = 3 ∨ l = 4 ∨ l = 5 := by omega
  rcases hc with rfl | rfl | rfl | rfl | rfl | rfl
  all_goals
    simp at hs
    go_enter Try.func39, Try.ntmps39
    go_wp2
    go_ret
    exact ⟨rfl, rfl⟩
set_option maxRecDepth 100000 in
theorem front_any (w : World) {k l : Nat} (hk : k < 9223372036854775808) (hl : l ≤ 6) : Calls Try.prog 38 #[.int .i64 (k : Nat), .int .i64 (l : Nat)] w fun e w' => e = .returned (.int .i64 (frontN k l : Nat)) ∧ w' = w := by
  obtain ⟨q, hq⟩ : ∃ q, q = k / 16 ^ (6 - l) := ⟨_, rfl⟩
  have hd : frontN k l = q := by rw [hq]; rfl
  have hs : (k : Int) / 2 ^ (4 * (6 - l)) = (q : Int) := by
    rw [hq, show (16 : Nat) ^ (6 - l) = 2 ^ (4 * (6 - l)) by rw [Nat.pow_mul]]
    simp
  rw [hd]
  clear hq hd
  have hc : l = 0 ∨ l = 1 ∨ l = 2 ∨ l = 3 ∨ l = 4 ∨ l = 5 ∨ l = 6 := by omega
  rcases hc with rfl | rfl | rfl | rfl | rfl | rfl | rfl
  all_goals
    simp at hs
    go_enter Try.func38, Try.ntmps38
    go_wp2
    go_ret
    exact ⟨rfl, rfl⟩
end Go.Proofs.Ytgkdggidgaifhaa
