/- Sums, plain: a burst of at most 32 bits is found. -/
import Derived.Test.YtlmgihnnphmmhaaMK
namespace Go.Proofs.Ytlmgihnnphmmhaa
open Go.RowKit
set_option linter.unusedVariables false
set_option linter.unusedSimpArgs false

/-- The number of bytes, the lowest first. -/
def numB : Bytes → Nat
  | [] => 0
  | x :: L => x.toNat + 256 * numB L
theorem numB_lt : ∀ L : Bytes, numB L < 2 ^ (8 * L.length)
  | [] => by simp [numB]
  | x :: L => by
    have h1 := numB_lt L
    have h2 := UInt8.toNat_lt x
    have e : 2 ^ (8 * (x :: L).length) = 256 * 2 ^ (8 * L.length) := by
      rw [List.length_cons, Nat.mul_add, Nat.mul_one, Nat.pow_add, Nat.mul_comm]
    rw [e]
    simp only [numB]
    omega
theorem numB_app : ∀ L M : Bytes, numB (L ++ M) = numB L + 2 ^ (8 * L.length) * numB M
  | [], M => by simp [numB]
  | x :: L, M => by
    have h1 := numB_app L M
    have e : 2 ^ (8 * (x :: L).length) = 256 * 2 ^ (8 * L.length) := by
      rw [List.length_cons, Nat.mul_add, Nat.mul_one, Nat.pow_add, Nat.mul_comm]
    rw [List.cons_append, numB, h1, numB, e, Nat.mul_add, Nat.mul_assoc, Nat.add_assoc]
theorem numB_inj : ∀ {L M : Bytes}, L.length = M.length → numB L = numB M → L = M
  | [], [], _, _ => rfl
  | [], _ :: _, h, _ => by cases h
  | _ :: _, [], h, _ => by cases h
  | x :: L, y :: M, h, e => by
    simp only [numB] at e
    have h1 := UInt8.toNat_lt x
    have h2 := UInt8.toNat_lt y
    have e1 : x.toNat = y.toNat := by omega
    have e2 : numB L = numB M := by omega
    rw [UInt8.toNat_inj.1 e1, numB_inj (by simpa using h) e2]
theorem add_xor8 {a : Nat} (b : Nat) (h : a < 256) : a + 256 * b = a ^^^ (2 ^ 8 * b) := by
  apply Nat.eq_of_testBit_eq
  intro i
  rw [Nat.testBit_xor, Nat.testBit_two_pow_mul, Nat.add_comm, show (256 : Nat) = 2 ^ 8 by rfl, Nat.testBit_two_pow_mul_add _ h]
  by_cases hi : i < 8
  · simp [hi, show ¬ 8 ≤ i by omega]
  · rw [if_neg hi]
    have : a.testBit i = false := Nat.testBit_lt_two_pow (Nat.lt_of_lt_of_le h (Nat.pow_le_pow_right (n := 2) (by omega) (show 8 ≤ i by omega)))
    simp [this, show 8 ≤ i by omega]
/-- The sum's register as one number. -/
theorem sumGo_num : ∀ (L : Bytes) (v : Nat), sumGo v L = bitN (8 * L.length) (v ^^^ numB L)
  | [], v => by simp [sumGo, numB, bitN]
  | x :: L, v => by
    have h := sumGo_num L (byte1 v x)
    show sumGo (byte1 v x) L = _
    rw [h, List.length_cons, Nat.mul_add, Nat.mul_one, bitN_add]
    congr 1
    rw [numB, add_xor8 _ (UInt8.toNat_lt x), ← Nat.xor_assoc, bitN_xor 8, bitN_shift]
    rfl
theorem bitN_zero (k : Nat) : bitN k 0 = 0 := by
  have := bitN_xor k 0 0
  rw [Nat.xor_self] at this
  rw [this, Nat.xor_self]
theorem bit1_eq_zero {v : Nat} (h : v < 4294967296) (e : bit1 v = 0) : v = 0 := by
  unfold bit1 at e
  have h1 : v / 2 = v % 2 * 2197175160 := by
    have h2 := congrArg (fun z => z ^^^ (v % 2 * 2197175160)) e
    simp only [Nat.xor_assoc, Nat.xor_self, Nat.xor_zero, Nat.zero_xor] at h2
    exact h2
  omega
theorem bitN_eq_zero : ∀ (k : Nat) {v : Nat}, v < 4294967296 → bitN k v = 0 → v = 0
  | 0, v, _, e => e
  | k + 1, v, h, e => bitN_eq_zero k h (bit1_eq_zero (bitN_lt k h) e)
/-- Two numbers that differ within 32 bits, one behind the other. -/
def NearN (a b : Nat) : Prop := ∃ s e, e < 4294967296 ∧ a ^^^ b = 2 ^ s * e
theorem NearN.refl (a : Nat) : NearN a a := ⟨0, 0, by omega, by rw [Nat.xor_self]⟩
/-- Bytes as many, that differ within 32 bits. -/
structure Near (L M : Bytes) : Prop where
  len : L.length = M.length
  num : NearN (numB L) (numB M)
theorem Near.refl (L : Bytes) : Near L L := ⟨rfl, NearN.refl _⟩
theorem NearN.mod {a b : Nat} (h : NearN a b) (k : Nat) : NearN (a % 2 ^ k) (b % 2 ^ k) := by
  obtain ⟨s, e, he, hx⟩ := h
  rw [NearN]
  refine ⟨s, e % 2 ^ (k - s), Nat.lt_of_le_of_lt (Nat.mod_le _ _) he, ?_⟩
  rw [← Nat.xor_mod_two_pow, hx]
  apply Nat.eq_of_testBit_eq
  intro i
  rw [Nat.testBit_mod_two_pow, Nat.testBit_two_pow_mul, Nat.testBit_two_pow_mul, Nat.testBit_mod_two_pow]
  by_cases h1 : s ≤ i
  · by_cases h2 : i < k
    · simp [h1, h2, show i - s < k - s by omega]
    · simp [h1, h2, show ¬ i - s < k - s by omega]
  · simp [h1]
theorem NearN.div {a b : Nat} (h : NearN a b) (k : Nat) : NearN (a / 2 ^ k) (b / 2 ^ k) := by
  obtain ⟨s, e, he, hx⟩ := h
  have hd : (a / 2 ^ k) ^^^ (b / 2 ^ k) = (2 ^ s * e) / 2 ^ k := by
    rw [← hx]
    apply Nat.eq_of_testBit_eq
    intro i
    rw [Nat.testBit_xor, Nat.testBit_div_two_pow, Nat.testBit_div_two_pow, Nat.testBit_div_two_pow, Nat.testBit_xor]
  rw [NearN]
  by_cases h1 : k ≤ s
  · refine ⟨s - k, e, he, ?_⟩
    rw [hd, show 2 ^ s * e = 2 ^ k * (2 ^ (s - k) * e) by rw [← Nat.mul_assoc, ← Nat.pow_add, Nat.add_sub_cancel' h1]]
    exact Nat.mul_div_cancel_left _ (Nat.pow_pos (by omega))
  · refine ⟨0, e / 2 ^ (k - s), Nat.lt_of_le_of_lt (Nat.div_le_self _ _) he, ?_⟩
    rw [hd, Nat.pow_zero, Nat.one_mul, show 2 ^ k = 2 ^ s * 2 ^ (k - s) by rw [← Nat.pow_add, Nat.add_sub_cancel' (by omega)]]
    exact Nat.mul_div_mul_left _ _ (Nat.pow_pos (by omega))
theorem numB_take (L : Bytes) (k : Nat) (h : k ≤ L.length) : numB (L.take k) = numB L % 2 ^ (8 * k) := by
  have h1 := numB_app (L.take k) (L.drop k)
  have h2 := numB_lt (L.take k)
  rw [List.take_append_drop] at h1
  rw [List.length_take, Nat.min_eq_left h] at h1 h2
  rw [h1, Nat.add_mul_mod_self_left, Nat.mod_eq_of_lt h2]
theorem numB_drop (L : Bytes) (k : Nat) (h : k ≤ L.length) : numB (L.drop k) = numB L / 2 ^ (8 * k) := by
  have h1 := numB_app (L.take k) (L.drop k)
  have h2 := numB_lt (L.take k)
  rw [List.take_append_drop] at h1
  rw [List.length_take, Nat.min_eq_left h] at h1 h2
  rw [h1, Nat.add_mul_div_left _ _ (Nat.pow_pos (by omega)), Nat.div_eq_of_lt h2, Nat.zero_add]
theorem Near.take {L M : Bytes} (h : Near L M) (k : Nat) : Near (L.take k) (M.take k) := by
  refine ⟨by rw [List.length_take, List.length_take, h.len], ?_⟩
  by_cases hk : k ≤ L.length
  · rw [numB_take _ _ hk, numB_take _ _ (by rw [← h.len]; exact hk)]
    exact h.num.mod _
  · rw [List.take_of_length_le (by omega), List.take_of_length_le (by rw [← h.len]; omega)]
    exact h.num
theorem Near.drop {L M : Bytes} (h : Near L M) (k : Nat) : Near (L.drop k) (M.drop k) := by
  refine ⟨by rw [List.length_drop, List.length_drop, h.len], ?_⟩
  by_cases hk : k ≤ L.length
  · rw [numB_drop _ _ hk, numB_drop _ _ (by rw [← h.len]; exact hk)]
    exact h.num.div _
  · rw [List.drop_eq_nil_of_le (by omega), List.drop_eq_nil_of_le (by rw [← h.len]; omega)]
    exact NearN.refl _
theorem xor_add_pow {a b c d k : Nat} (ha : a < 2 ^ k) (hb : b < 2 ^ k) : (a + 2 ^ k * c) ^^^ (b + 2 ^ k * d) = (a ^^^ b) + 2 ^ k * (c ^^^ d) := by
  have hab : a ^^^ b < 2 ^ k := Nat.xor_lt_two_pow ha hb
  apply Nat.eq_of_testBit_eq
  intro i
  rw [Nat.testBit_xor, Nat.add_comm a, Nat.add_comm b, Nat.add_comm (a ^^^ b), Nat.testBit_two_pow_mul_add _ ha, Nat.testBit_two_pow_mul_add _ hb, Nat.testBit_two_pow_mul_add _ hab]
  split <;> rw [Nat.testBit_xor]
/-- The same on both sides of bytes that differ so. -/
theorem Near.mid {L M : Bytes} (h : Near L M) (A B : Bytes) : Near (A ++ L ++ B) (A ++ M ++ B) := by
  refine ⟨by simp [h.len], ?_⟩
  obtain ⟨s, e, he, hx⟩ := h.num
  refine ⟨8 * A.length + s, e, he, ?_⟩
  have hl := h.len
  rw [numB_app, numB_app, numB_app, numB_app, List.length_append, List.length_append, ← hl, Nat.add_assoc, Nat.add_assoc]
  have e1 : ∀ x, 2 ^ (8 * A.length) * x + 2 ^ (8 * (A.length + L.length)) * numB B = 2 ^ (8 * A.length) * (x + 2 ^ (8 * L.length) * numB B) := fun x => by
    rw [Nat.mul_add (2 ^ (8 * A.length)), ← Nat.mul_assoc, ← Nat.pow_add, Nat.mul_add 8]
  rw [e1, e1, xor_add_pow (numB_lt A) (numB_lt A), Nat.xor_self, Nat.zero_add, xor_add_pow (numB_lt L) (by rw [hl]; exact numB_lt M), Nat.xor_self, Nat.mul_zero, Nat.add_zero, hx, ← Nat.mul_assoc, ← Nat.pow_add]
theorem le8_numB : ∀ (k : Nat) (L : Bytes), L.length = k → le8 L k = numB L
  | 0, [], _ => rfl
  | 0, _ :: _, h => by cases h
  | k + 1, [], h => by cases h
  | k + 1, x :: L, h => by
    have h1 := le8_numB k L (by simpa using h)
    have key : ∀ (n : Nat), le8 (x :: L) (n + 1) = x.toNat + 256 * le8 L n := fun n => by
      induction n with
      | zero => simp [le8, at8]
      | succ n ih =>
        rw [show le8 (x :: L) (n + 1 + 1) = le8 (x :: L) (n + 1) + at8 (x :: L) (n + 1) * 256 ^ (n + 1) from rfl, ih, show le8 L (n + 1) = le8 L n + at8 L n * 256 ^ n from rfl, show at8 (x :: L) (n + 1) = at8 L n by simp [at8], Nat.mul_add, Nat.pow_succ, Nat.add_assoc]
        congr 2
        rw [Nat.mul_comm (256 ^ n) 256]
        exact Nat.mul_left_comm _ _ _
    rw [key, h1, numB]
/-- What is sealed, as one number. -/
theorem openB_num {L : Bytes} (h : (openB L).2 = 0) : sumGo 4294967295 L = bitN 32 4294967295 := by
  obtain ⟨h4, _⟩ := openB_ok h
  unfold openB at h
  rw [if_neg (by omega)] at h
  by_cases he : le8 (L.drop (L.length - 4)) 4 = sumOf (L.take (L.length - 4))
  · have hl : (L.drop (L.length - 4)).length = 4 := by rw [List.length_drop]; omega
    rw [le8_numB 4 _ hl] at he
    have hs : sumGo 4294967295 L = sumGo (sumGo 4294967295 (L.take (L.length - 4))) (L.drop (L.length - 4)) := by
      conv => lhs; rw [← List.take_append_drop (L.length - 4) L]
      exact List.foldl_append
    rw [hs, sumGo_num, hl, he]
    unfold sumOf
    rw [← Nat.xor_assoc, Nat.xor_self, Nat.zero_xor]
  · rw [if_neg he] at h; cases h
/-- Of two that differ within 32 bits only one is sealed. -/
theorem Near.openB {L M : Bytes} (h : Near L M) (h1 : (openB L).2 = 0) (h2 : (Go.Proofs.Ytlmgihnnphmmhaa.openB M).2 = 0) : L = M := by
  have e1 := openB_num h1
  have e2 := openB_num h2
  rw [sumGo_num] at e1 e2
  rw [← h.len] at e2
  obtain ⟨s, e, he, hx⟩ := h.num
  have e3 : bitN (8 * L.length) (numB L ^^^ numB M) = 0 := by
    have h3 : numB L ^^^ numB M = (4294967295 ^^^ numB L) ^^^ (4294967295 ^^^ numB M) := by
      rw [Nat.xor_comm 4294967295 (numB L), Nat.xor_assoc, ← Nat.xor_assoc 4294967295, Nat.xor_self, Nat.zero_xor]
    rw [h3, bitN_xor, e1, e2, Nat.xor_self]
  have hlt : numB L ^^^ numB M < 2 ^ (8 * L.length) := Nat.xor_lt_two_pow (numB_lt L) (by rw [h.len]; exact numB_lt M)
  have e0 : numB L ^^^ numB M = 0 := by
    rw [hx] at e3 hlt ⊢
    by_cases hs : s ≤ 8 * L.length
    · rw [show 8 * L.length = (8 * L.length - s) + s by omega, bitN_add, bitN_shift] at e3
      rw [bitN_eq_zero _ he e3, Nat.mul_zero]
    · rcases Nat.eq_zero_or_pos e with h0 | h0
      · rw [h0, Nat.mul_zero]
      · exfalso
        have h4 : 2 ^ (8 * L.length) ≤ 2 ^ s := Nat.pow_le_pow_right (by omega) (by omega)
        have h5 : 2 ^ s * 1 ≤ 2 ^ s * e := Nat.mul_le_mul_left _ h0
        omega
  refine numB_inj h.len ?_
  have h6 := congrArg (fun z => z ^^^ numB M) e0
  simp only [Nat.xor_assoc, Nat.xor_self, Nat.xor_zero, Nat.zero_xor] at h6
  exact h6
end Go.Proofs.Ytlmgihnnphmmhaa
