/- ints.Get, ints.Put. -/
import Derived.Test.YtgkdggidgaifhaaBy
import Derived.Test.YtgkdggidgaifhaaBit
namespace Go.Proofs.Ytgkdggidgaifhaa
open Go.RowKit
set_option linter.unusedVariables false
set_option linter.unusedSimpArgs false

/-- The number of the first k bytes. -/
def le8 (L : Bytes) : Nat → Nat
  | 0 => 0
  | k + 1 => le8 L k + at8 L k * 256 ^ k
theorem le8_lt (L : Bytes) (k : Nat) : le8 L k < 256 ^ k := by
  induction k with
  | zero => simp [le8]
  | succ k ih =>
    have h1 := at8_lt L k
    have h2 : at8 L k * 256 ^ k ≤ 255 * 256 ^ k := Nat.mul_le_mul_right _ (by omega)
    simp only [le8, Nat.pow_succ]
    omega

theorem pow8 (k : Nat) : 256 ^ k = 2 ^ (8 * k) := by rw [Nat.pow_mul]
theorem get_step (L : Bytes) (j : Nat) (hj : j < 8) : bits .or .u64 (le8 L j : Nat) (IntKind.u64.wrap (IntKind.u64.wrap (at8 L j : Nat) * 2 ^ (8 * j))) = (le8 L (j + 1) : Nat) := by
  have h1 := le8_lt L j
  have h2 := le8_lt L (j + 1)
  have h3 := at8_lt L j
  have hp : 256 ^ (j + 1) ≤ 256 ^ 8 := Nat.pow_le_pow_right (by omega) (by omega)
  have hq : 256 ^ j ≤ 256 ^ 8 := Nat.pow_le_pow_right (by omega) (by omega)
  have e8 : (256 : Nat) ^ 8 = 18446744073709551616 := by decide
  rw [w64_of (n := at8 L j) (by omega)]
  have e : ((at8 L j : Nat) : Int) * 2 ^ (8 * j) = ((at8 L j * 256 ^ j : Nat) : Int) := by rw [pow8]; simp
  have hb : at8 L j * 256 ^ j < 18446744073709551616 := by
    have : at8 L j * 256 ^ j ≤ le8 L (j + 1) := by simp [le8]
    omega
  rw [e, w64_of hb, or64 (by omega) hb, pow8, or_sum (by rw [← pow8]; exact h1), ← pow8]
  rfl

set_option maxHeartbeats 1000000 in
theorem get_any (w : World) (A : Option Addr) (n c : Nat) (L : Bytes) (k : Nat) (hL : SBy w A n L) (hk : k ≤ n) (h8 : k ≤ 8) (hn : n ≤ maxLen) :
    Calls Try.prog 81 #[.slice A n c, .int .i64 k] w fun e w' => e = .returned (.tuple #[.int .u64 (le8 L k), .bool true]) ∧ w' = w := by
  unfold maxLen at hn
  have d1 : ¬ (k : Int) < 0 := by omega
  have d2 : ¬ (k : Int) > 8 := by omega
  have d3 : ¬ (n : Int) < (k : Int) := by omega
  go_enter Try.func81, Try.ntmps81
  go_wp2
  go_loop [6, 21] (fun v i => ∃ j : Nat, j ≤ k ∧ i = .int .i64 j ∧ v = .int .u64 (le8 L j)) (fun _ i => k - (intOf i).toNat)
  case atStart => exact ⟨0, Nat.zero_le _, rfl, rfl⟩
  case round =>
    obtain ⟨j, hj, rfl, rfl⟩ := hrel
    by_cases hjk : j < k
    · obtain ⟨b, o, rfl, hb, hc⟩ := hL.2 (by omega)
      have c0 := hc j (by omega)
      clear hc
      have HG := Lib.hid (get_step L j (by omega))
      go_wp2
      go_round
      case rel => exact ⟨j + 1, by omega, by go_num, by rw [HG.out]⟩
      case measure => simp [intOf]; omega
    · obtain rfl : j = k := by omega
      go_wp2
      go_ret2
      exact ⟨rfl, rfl⟩

/-- The lowest n bytes of a number. -/
def leB (V n : Nat) : Bytes := (List.range n).map fun i => b8 (V / 256 ^ i % 256)
theorem leB_length (V n : Nat) : (leB V n).length = n := by simp [leB]
theorem leB_succ (V n : Nat) : leB V (n + 1) = leB V n ++ [b8 (V / 256 ^ n % 256)] := by simp [leB, List.range_succ]

set_option maxHeartbeats 1000000 in
theorem put_any (w : World) (A : Option Addr) (n c : Nat) (L : Bytes) (V k : Nat) (hL : SBy w A n L) (hV : V < 18446744073709551616) (h8 : k ≤ 8) (hn : n ≤ 2 ^ 40) :
    Calls Try.prog 89 #[.slice A n c, .int .u64 V, .int .i64 k] w fun e w' => ∃ A' c', e = .returned (.slice A' (n + k) c') ∧ FrB w w' (.slice A' (n + k) c') (L ++ leB V k) := by
  have hl := hL.1
  have HL := Lib.hid hL
  have HV := Lib.hid hV
  clear hL hV
  have m1 : max (k : Int) 0 = k := by omega
  have m2 : min (k : Int) 64 = k := by omega
  go_enter Try.func89, Try.ntmps89
  go_wp2_with (at_builtin; go_must (refine wpList_appF rfl (.tmp 9) (.tmp 10) rfl w (.slice (some ⟨w.heap.size, 0, none⟩) 0 0) [] L rfl (FrB.lit w) A n c rfl (HL.out.alloc _) (by simp; omega) n (by simp) ?_); intro A' c' w1 h1 hg)
  have H1 := Lib.hid h1
  clear h1 hg
  go_loopw [7, 15] (fun v i wr => ∃ (j : Nat) (A' : Option Addr) (c' : Nat), j ≤ k ∧ i = .int .i64 j ∧ v = .slice A' (n + j) c' ∧ FrB w wr v (L ++ leB V j)) (fun _ i _ => k - (intOf i).toNat)
  case atStart => exact ⟨0, _, _, Nat.zero_le _, rfl, rfl, by simpa [leB] using H1.out⟩
  case round =>
    obtain ⟨j, A', c', hj, rfl, rfl, hf⟩ := hrel
    clear H1
    have HF := Lib.hid hf
    clear hf
    by_cases hjk : j < k
    · have e1 : (V : Int) / 2 ^ (8 * j) = ((V / 256 ^ j : Nat) : Int) := by rw [pow8]; simp
      have e2 := w8 (V / 256 ^ j)
      have hm : V / 256 ^ j % 256 < 256 := Nat.mod_lt _ (by omega)
      have j8 : ((j : Nat) : Int) < 8 := by omega
      go_wp2_with (at_builtin; go_must (refine wpList_appF rfl (.tmp 20) (.tmp 26) rfl w (.slice A' (n + j) c') (L ++ leB V j) [b8 (V / 256 ^ j % 256)] rfl (HF.out.alloc _) (some ⟨wr.heap.size, 0, none⟩) 1 1 rfl (SBy.one wr hm _) (by simp [leB_length]; omega) (n + (j + 1)) (by simp [leB_length]; omega) ?_); intro A2 c2 w2 h2 hg2)
      rw [List.append_assoc, ← leB_succ] at h2
      have H2 := Lib.hid h2
      clear h2 hg2 HF
      go_wp2
      go_roundw
      case rel => exact ⟨j + 1, _, _, by omega, by go_num, rfl, H2.out⟩
      case measure => simp [intOf]; omega
    · obtain rfl : j = k := by omega
      go_wp2
      go_ret
      exact ⟨_, _, rfl, HF.out⟩
end Go.Proofs.Ytgkdggidgaifhaa
