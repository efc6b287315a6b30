/- radix: what was written as a node is read as that node, plainly. -/
import Derived.Test.YtgkdggidgaifhaaNg
namespace Go.Proofs.Ytgkdggidgaifhaa
open Go.RowKit
set_option linter.unusedVariables false
set_option linter.unusedSimpArgs false

/-- Two nodes that say the same. -/
structure Sim (x y : RN) : Prop where
  level : y.level = x.level
  pr : x.level ≤ 5 → y.prefix_ = x.prefix_
  ky : x.level = 6 → y.key = x.key ∧ y.val = x.val
  has : x.level ≤ 5 → ∀ i, i < 16 → y.has i = x.has i
  vs : x.level = 5 → ∀ i, i < 16 → x.has i = true → y.vals i = x.vals i
  kd : x.level < 5 → ∀ i, i < 16 → x.has i = true → y.kids i = x.kids i
theorem Sim.some {x y : RN} (h : Sim x y) (hl : x.level ≤ 6) : y.some = x.some := by
  unfold RN.some
  rw [h.level]
  split
  · rename_i h6
    exact (h.ky h6).1
  · rw [h.pr (by omega)]
theorem maskN_bit (f : Nat → Bool) {n : Nat} : ∀ {m : Nat}, n < m → maskN f m / 2 ^ n % 2 = if f n then 1 else 0
  | 0, h => by omega
  | m + 1, h => by
    unfold maskN
    by_cases e : n = m
    · subst e
      have := maskN_lt f n
      have h2 : 0 < 2 ^ n := Nat.two_pow_pos n
      by_cases hf : f n = true
      · rw [if_pos hf, if_pos hf, Nat.add_div_right _ h2, Nat.div_eq_of_lt this]
      · rw [if_neg hf, if_neg hf, Nat.add_zero, Nat.div_eq_of_lt this]
    · have ih := maskN_bit f (n := n) (m := m) (by omega)
      by_cases hf : f m = true
      · rw [if_pos hf]
        have e2 : 2 ^ m = 2 * 2 ^ (m - n - 1) * 2 ^ n := by
          rw [Nat.mul_assoc, ← Nat.pow_add, Nat.mul_comm 2, ← Nat.pow_succ]
          congr 1
          omega
        rw [e2, Nat.add_mul_div_right _ _ (Nat.two_pow_pos n), Nat.add_mod, Nat.mul_mod_right, Nat.add_zero, Nat.mod_mod]
        exact ih
      · rw [if_neg hf, Nat.add_zero]
        exact ih
theorem maskN_pos {f : Nat → Bool} {n m : Nat} (h : n < m) (hf : f n = true) : maskN f m ≠ 0 := fun e => by
  have := maskN_bit f h
  rw [e, if_pos hf] at this
  simp at this
/-- What is left of a node's entries. -/
def entsR (x : RN) : Nat → Bytes
  | 0 => []
  | k + 1 => entB x (15 - k) ++ entsR x k
theorem ents_split (x : RN) : ∀ {n : Nat}, n ≤ 16 → entsB x n ++ entsR x (16 - n) = entsB x 16
  | 16, h => by simp [entsR]
  | n, h => by
    by_cases e : n = 16
    · subst e; simp [entsR]
    · have ih := ents_split x (n := n + 1) (by omega)
      have e1 : 16 - n = (16 - (n + 1)) + 1 := by omega
      rw [e1, entsR]
      have e2 : 15 - (16 - (n + 1)) = n := by omega
      rw [e2, ← ih, entsB, List.append_assoc]
  termination_by n => 16 - n
theorem nextN_var {V m : Nat} (R : Bytes) (hV : V < 18446744073709551616) (hm : V ≤ m) : nextN (varB V ++ R, false) m = (V, (R, false)) := by
  unfold nextN
  rw [rdVar_var R hV]
  simp only [ne_eq, not_true_eq_false, false_or]
  rw [if_neg (by omega)]
  simp
theorem takeN_app (L R : Bytes) : takeN (L ++ R, false) L.length = (L, (R, false)) := by
  unfold takeN
  rw [if_neg (by simp)]
  simp
/-- Read up to entry n. -/
structure Rd (x y : RN) (n : Nat) : Prop where
  level : y.level = x.level
  pr : y.prefix_ = x.prefix_
  has : ∀ i, i < n → y.has i = x.has i
  vs : x.level = 5 → ∀ i, i < n → x.has i = true → y.vals i = x.vals i
  kd : x.level < 5 → ∀ i, i < n → x.has i = true → y.kids i = x.kids i
theorem read_step {x y : RN} (hx : x.Ok) {n : Nat} (hn : n < 16) (h : Rd x y n) (h5 : x.level ≤ 5) (R : Bytes) : ∃ y', pStep (maskN x.has 16) (y, (entB x n ++ R, false)) n = (y', (R, false)) ∧ Rd x y' (n + 1) := by
  have hbit := maskN_bit x.has (n := n) (m := 16) (by omega)
  unfold pStep
  by_cases hh : x.has n = true
  · rw [if_pos hh] at hbit
    simp only [hbit, true_and, if_true]
    unfold entB
    rw [if_pos hh, h.level]
    by_cases e5 : x.level = 5
    · rw [if_pos e5, if_pos e5, List.append_assoc]
      have hv := hx.vs n hn
      rw [nextN_var _ (by omega) hv]
      simp only
      rw [takeN_app]
      refine ⟨_, rfl, ⟨rfl, h.pr, fun i hi => ?_, fun _ i hi hi2 => ?_, fun hl => by omega⟩⟩
      · simp only [upd]
        split
        · rename_i e; rw [e, hh]
        · exact h.has i (by omega)
      · simp only [upd]
        split
        · rename_i e; rw [e]
        · exact h.vs e5 i (by omega) hi2
    · rw [if_neg e5, if_neg e5, List.append_assoc]
      have hk := hx.kd n hn
      rw [nextN_var _ (by omega) (by omega)]
      simp only
      rw [nextN_var _ (by omega) (by omega)]
      refine ⟨_, rfl, ⟨rfl, h.pr, fun i hi => ?_, fun e => absurd e e5, fun hl i hi hi2 => ?_⟩⟩
      · simp only [upd]
        split
        · rename_i e; rw [e, hh]
        · exact h.has i (by omega)
      · simp only [upd]
        split
        · rename_i e
          rw [e]
          refine Prod.ext ?_ ?_ <;> simp <;> omega
        · exact h.kd hl i (by omega) hi2
  · rw [if_neg hh] at hbit
    simp only [hbit, Nat.zero_ne_one, false_and, if_false]
    unfold entB
    rw [if_neg hh, List.nil_append]
    refine ⟨_, rfl, ⟨h.level, h.pr, fun i hi => ?_, fun e5 i hi hi2 => ?_, fun hl i hi hi2 => ?_⟩⟩
    · simp only [upd]
      split
      · rename_i e
        rw [e]
        simp only [Bool.not_eq_true] at hh
        rw [hh]
        rfl
      · exact h.has i (by omega)
    · refine h.vs e5 i ?_ hi2
      rcases Nat.lt_or_ge i n with h1 | h1
      · exact h1
      · have : i = n := by omega
        exact absurd (this ▸ hi2) hh
    · refine h.kd hl i ?_ hi2
      rcases Nat.lt_or_ge i n with h1 | h1
      · exact h1
      · have : i = n := by omega
        exact absurd (this ▸ hi2) hh
theorem read_loop {x y : RN} (hx : x.Ok) (h5 : x.level ≤ 5) (h : Rd x y 0) : ∀ {n : Nat}, n ≤ 16 → ∃ y', pLoop (maskN x.has 16) (y, (entsB x 16, false)) n = (y', (entsR x (16 - n), false)) ∧ Rd x y' n
  | 0, _ => ⟨y, by rw [← ents_split x (n := 0) (by omega)]; rfl, h⟩
  | n + 1, hn => by
    obtain ⟨y1, h1, h2⟩ := read_loop hx h5 h (n := n) (by omega)
    have e1 : 16 - n = (16 - (n + 1)) + 1 := by omega
    have e2 : 15 - (16 - (n + 1)) = n := by omega
    rw [e1, entsR, e2] at h1
    obtain ⟨y2, h3, h4⟩ := read_step hx (n := n) (by omega) h2 h5 (entsR x (16 - (n + 1)))
    exact ⟨y2, by rw [pLoop, h1, h3], h4⟩
theorem le8_leB2 {m : Nat} (h : m < 65536) (R : Bytes) : le8 (leB m 2) 2 = m := by
  have e : leB m 2 = [b8 (m % 256), b8 (m / 256 % 256)] := by
    simp [leB, List.range_succ]
  rw [e]
  simp only [le8, at8, List.getD_cons_zero, List.getD_cons_succ]
  rw [b8_lt (by omega), b8_lt (by omega)]
  omega
/-- What was written is read. -/
theorem parse_node {x : RN} (hx : x.Ok) (hne : x.level ≤ 5 → ∃ i, i < 16 ∧ x.has i = true) : ∃ y, parseB (nodeB x) = some y ∧ Sim x y := by
  have hl := hx.lv
  unfold nodeB
  by_cases h6 : x.level = 6
  · rw [if_pos h6]
    have hk := hx.ky h6
    have hv := hx.v
    unfold parseB
    have e6 : (b8 6).toNat = 6 := rfl
    simp only [e6, Nat.lt_irrefl, if_false, if_true]
    have e1 : pLone (varB x.key ++ x.val) = ({ rn0 6 with key := x.key, val := x.val }, ([], false)) := by
      unfold pLone
      rw [nextN_var _ (by omega) (by omega)]
      simp only
      have := takeN_app x.val []
      rw [List.append_nil] at this
      rw [this]
    rw [e1]
    simp only [true_and]
    rw [if_pos hv]
    exact ⟨_, rfl, ⟨h6.symm, fun h => by omega, fun _ => ⟨rfl, rfl⟩, fun h => by omega, fun h => by omega, fun h => by omega⟩⟩
  · rw [if_neg h6]
    have h5 : x.level ≤ 5 := by omega
    have hp := hx.pr h5
    have hp2 := ok_prefix hx h5
    obtain ⟨i0, hi0, hi1⟩ := hne h5
    unfold parseB
    have el : (b8 x.level).toNat = x.level := b8_lt (by omega)
    simp only [el]
    rw [if_neg (by omega), if_neg h6]
    have e1 : pHead x.level (varB x.prefix_ ++ leB (maskN x.has 16) 2 ++ entsB x 16) = (x.prefix_, (leB (maskN x.has 16) 2 ++ entsB x 16, false)) := by
      unfold pHead
      rw [List.append_assoc]
      exact nextN_var _ (by omega) (by omega)
    have e2 : takeN (leB (maskN x.has 16) 2 ++ entsB x 16, false) 2 = (leB (maskN x.has 16) 2, (entsB x 16, false)) := by
      have := takeN_app (leB (maskN x.has 16) 2) (entsB x 16)
      rwa [leB_length] at this
    have e3 : pMask x.level (varB x.prefix_ ++ leB (maskN x.has 16) 2 ++ entsB x 16) = maskN x.has 16 := by
      unfold pMask
      rw [e1]
      simp only
      rw [e2]
      simp only [leB_length, Nat.lt_irrefl, if_false]
      exact le8_leB2 (maskN_lt _ _) []
    have e4 : ∃ y', pNode x.level (varB x.prefix_ ++ leB (maskN x.has 16) 2 ++ entsB x 16) = (y', ([], false)) ∧ Rd x y' 16 := by
      unfold pNode
      rw [e3, e1]
      simp only
      rw [e2]
      have h0 := read_loop (y := { rn0 x.level with prefix_ := x.prefix_ }) hx h5 ⟨rfl, rfl, fun i hi => by omega, fun _ i hi => by omega, fun _ i hi => by omega⟩ (n := 16) (Nat.le_refl _)
      simp only [Nat.sub_self, entsR] at h0
      exact h0
    obtain ⟨y, e5, hy⟩ := e4
    rw [e5, e3]
    simp only [true_and]
    rw [if_pos (maskN_pos hi0 hi1)]
    exact ⟨y, rfl, ⟨hy.level, fun _ => hy.pr, fun h => absurd h h6, fun _ => hy.has, hy.vs, hy.kd⟩⟩
end Go.Proofs.Ytgkdggidgaifhaa
