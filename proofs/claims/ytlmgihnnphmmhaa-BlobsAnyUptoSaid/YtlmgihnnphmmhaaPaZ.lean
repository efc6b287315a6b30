/- blobs, plain: the writes of one Put and what stands behind them. -/
import Derived.Test.YtlmgihnnphmmhaaMG
import Derived.Test.YtlmgihnnphmmhaaDcZ
import Derived.Test.YtlmgihnnphmmhaaMC
namespace Go.Proofs.Ytlmgihnnphmmhaa
open Go.RowKit
set_option linter.unusedVariables false
set_option linter.unusedSimpArgs false

/-- The i-th sector of bytes. -/
def sec (z : Nat) (F : Bytes) (i : Nat) : Bytes := (F.drop (i * z)).take z
/-- The first i sectors of F are written, from sector a on. -/
def DkS.putN (d : DkS) (a : Nat) (F : Bytes) : Nat → DkS
  | 0 => d
  | i + 1 => (d.putN a F i).write (a + i) (sec d.z F i)
theorem putN_z (d : DkS) (a : Nat) (F : Bytes) (i : Nat) : (d.putN a F i).z = d.z := by
  induction i with
  | zero => rfl
  | succ i ih => exact ih
theorem putN_S (d : DkS) (a : Nat) (F : Bytes) (i : Nat) : (d.putN a F i).S = d.S := by
  induction i with
  | zero => rfl
  | succ i ih => exact ih
theorem putN_off (d : DkS) (a : Nat) (F : Bytes) (i : Nat) : (d.putN a F i).off = d.off := by
  induction i with
  | zero => rfl
  | succ i ih => exact ih
theorem putN_kept (d : DkS) (a : Nat) (F : Bytes) (i : Nat) : (d.putN a F i).kept = d.kept := by
  induction i with
  | zero => rfl
  | succ i ih => exact ih
theorem putN_pend (d : DkS) (a : Nat) (F : Bytes) (i : Nat) : (d.putN a F i).pend.length = d.pend.length + i := by
  induction i with
  | zero => rfl
  | succ i ih =>
    show ((d.putN a F i).pend ++ [_]).length = _
    rw [List.length_append, ih]
    rfl
theorem lastR_lt (r : List (Nat × Bytes)) (k i : Nat) (h : lastR r k = some i) : i < r.length := by
  induction r with
  | nil => cases h
  | cons p r ih =>
    unfold lastR at h
    by_cases hp : p.1 = k
    · rw [if_pos hp] at h
      cases h
      exact Nat.lt_succ_self _
    · rw [if_neg hp] at h
      exact Nat.lt_succ_of_lt (ih h)
theorem lastOf_lt (l : List (Nat × Bytes)) (k i : Nat) (h : lastOf l k = some i) : i < l.length := by
  have := lastR_lt _ _ _ h
  rwa [List.length_reverse] at this
/-- Reading behind a write. -/
theorem read_write (d : DkS) (s : Nat) (L : Bytes) (k : Nat) : (d.write s L).read k = if k = s then L else d.read k := by
  have hl : lastOf (d.write s L).pend k = if s = k then some d.pend.length else lastOf d.pend k := lastOf_snoc _ _ _
  have hp : (d.write s L).pend = d.pend ++ [(s, L)] := rfl
  unfold DkS.read
  rw [hl, hp]
  by_cases hs : s = k
  · rw [if_pos hs, if_pos hs.symm]
    simp [List.getD_eq_getElem?_getD]
  · rw [if_neg hs, if_neg (fun e => hs e.symm)]
    cases h : lastOf d.pend k with
    | none => rfl
    | some i =>
      have := lastOf_lt _ _ _ h
      simp [List.getD_eq_getElem?_getD, List.getElem?_append_left this]
theorem read_putN (d : DkS) (a : Nat) (F : Bytes) (i k : Nat) : (d.putN a F i).read k = if a ≤ k ∧ k < a + i then sec d.z F (k - a) else d.read k := by
  induction i with
  | zero => rw [if_neg (by omega)]; rfl
  | succ i ih =>
    show ((d.putN a F i).write (a + i) (sec d.z F i)).read k = _
    rw [read_write, ih]
    by_cases h1 : k = a + i
    · rw [if_pos h1, if_pos (by omega), h1, Nat.add_sub_cancel_left]
    · rw [if_neg h1]
      by_cases h2 : a ≤ k ∧ k < a + i
      · rw [if_pos h2, if_pos (by omega)]
      · rw [if_neg h2, if_neg (by omega)]
theorem sec_length {z : Nat} {F : Bytes} {n i : Nat} (hF : F.length = n * z) (hi : i < n) : (sec z F i).length = z := by
  have h : (i + 1) * z ≤ n * z := Nat.mul_le_mul_right _ hi
  rw [Nat.add_mul, Nat.one_mul] at h
  unfold sec
  rw [List.length_take, List.length_drop]
  omega
/-- The first i sectors, put together. -/
def joinN (z : Nat) (F : Bytes) : Nat → Bytes
  | 0 => []
  | i + 1 => joinN z F i ++ sec z F i
theorem joinN_eq (z : Nat) (F : Bytes) (i : Nat) : joinN z F i = F.take (i * z) := by
  induction i with
  | zero => simp [joinN]
  | succ i ih =>
    unfold joinN sec
    rw [ih, Nat.add_mul, Nat.one_mul, List.take_add]
end Go.Proofs.Ytlmgihnnphmmhaa
