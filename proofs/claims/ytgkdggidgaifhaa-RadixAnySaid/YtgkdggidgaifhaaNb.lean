/- radix: fork; a node in memory: some, count, under. -/
import Derived.Test.YtgkdggidgaifhaaNa
import Derived.Deep.MidRow
namespace Go.Proofs.Ytgkdggidgaifhaa
open Go.RowKit
set_option linter.unusedVariables false
set_option linter.unusedSimpArgs false

def forkR (a b l : Nat) : Nat := if l < 5 ∧ digN a l = digN b l then forkR a b (l + 1) else l
termination_by 5 - l
decreasing_by omega
/-- The level at which two keys part. -/
def forkN (a b : Nat) : Nat := forkR a b 0
theorem forkR_le (a b l : Nat) (h : l ≤ 5) : l ≤ forkR a b l ∧ forkR a b l ≤ 5 := by
  fun_induction forkR a b l with
  | case1 l h1 ih => have := ih (by omega); omega
  | case2 l h1 => omega
theorem forkN_le (a b : Nat) : forkN a b ≤ 5 := (forkR_le a b 0 (by omega)).2
set_option maxHeartbeats 1000000 in
theorem fork_any (w : World) {a b : Nat} (ha : a < 9223372036854775808) (hb : b < 9223372036854775808) : Calls Try.prog 77 #[.int .i64 (a : Nat), .int .i64 (b : Nat)] w fun e w' => e = .returned (.int .i64 (forkN a b : Nat)) ∧ w' = w := by
  go_enter Try.func77, Try.ntmps77
  go_wp2
  go_loop [5] (fun i => ∃ j : Nat, j ≤ 5 ∧ i = .int .i64 j ∧ forkR a b j = forkN a b) (fun i => 5 - (intOf i).toNat)
  case atStart => exact ⟨0, by omega, rfl, rfl⟩
  case round =>
    obtain ⟨j, hj, rfl, hf⟩ := hrel
    have HF := Lib.hid hf
    clear hf
    by_cases hj5 : j < 5
    · by_cases hd : digN a j = digN b j
      · have hd2 : ((digN a j : Nat) : Int) = (digN b j : Nat) := by rw [hd]
        have HD := Lib.hid hd
        clear hd
        go_wp2_with (go_at_call 39; refine (digit_any _ (by assumption) (by omega)).mono ?_; rintro e w' ⟨rfl, rfl⟩)
        all_goals first | (exfalso; exact absurd hd2 ‹_›) | skip
        go_round
        case rel => exact ⟨j + 1, by omega, by go_num, by rw [← HF.out]; conv => rhs; rw [forkR]; rw [if_pos ⟨hj5, HD.out⟩]⟩
        case measure => simp [intOf]; omega
      · have hd2 : ¬ ((digN a j : Nat) : Int) = (digN b j : Nat) := by omega
        go_wp2_with (go_at_call 39; refine (digit_any _ (by assumption) (by omega)).mono ?_; rintro e w' ⟨rfl, rfl⟩)
        go_ret
        have : j = forkN a b := by rw [← HF.out, forkR, if_neg (fun h => hd h.2)]
        rw [← this]
        exact ⟨rfl, rfl⟩
    · obtain rfl : j = 5 := by omega
      go_wp2
      go_ret
      have : 5 = forkN a b := by rw [← HF.out, forkR, if_neg (by omega)]
      rw [← this]
      exact ⟨rfl, rfl⟩

/-! ### nodes -/
structure RN where
  level : Nat
  prefix_ : Nat
  kids : Nat → Int × Int
  vals : Nat → Bytes
  has : Nat → Bool
  key : Nat
  val : Bytes
def addrV (a : Int × Int) : Value := .agg #[.int .i64 a.1, .int .i64 a.2]
/-- The cells of a node. -/
def nodeC (x : RN) (vv : Nat → Value) (vl : Value) (k : Nat) : Value :=
  if k = 0 then .int .i64 (x.level : Nat) else if k = 1 then .int .i64 (x.prefix_ : Nat) else
  if k < 34 then (if k % 2 = 0 then .int .i64 (x.kids ((k - 2) / 2)).1 else .int .i64 (x.kids ((k - 2) / 2)).2) else
  if k < 50 then vv (k - 34) else if k < 66 then .bool (x.has (k - 50)) else if k = 66 then .int .i64 (x.key : Nat) else vl
def SlB (w : World) (v : Value) (L : Bytes) : Prop := ∃ A n c, v = .slice A n c ∧ n ≤ c ∧ SBy w A n L
structure NdAt (w : World) (X : Nat) (x : RN) (vv : Nat → Value) (vl : Value) : Prop where
  row : ∀ k, k < 68 → w.cell? ⟨X, k, none⟩ = some (nodeC x vv vl k)
  free : ∀ k, w.frozen? ⟨X, k, none⟩ = false
  vs : ∀ i, i < 16 → SlB w (vv i) (x.vals i)
  v : SlB w vl x.val
def RN.some (x : RN) : Nat := if x.level = 6 then x.key else x.prefix_ * 16 ^ (6 - x.level)
/-- Bounds. -/
structure RN.Ok (x : RN) : Prop where
  lv : x.level ≤ 6
  pr : x.level ≤ 5 → x.prefix_ < 16 ^ x.level
  ky : x.level = 6 → x.key < 16777216
  kd : ∀ i, i < 16 → 0 ≤ (x.kids i).1 ∧ (x.kids i).1 ≤ 2147483647 ∧ 0 ≤ (x.kids i).2 ∧ (x.kids i).2 ≤ 2147483647
  vs : ∀ i, i < 16 → (x.vals i).length ≤ 256
  v : x.val.length ≤ 256
section
variable {w : World} {X : Nat} {x : RN} {vv : Nat → Value} {vl : Value}
theorem NdAt.lt (h : NdAt w X x vv vl) : X < w.heap.size := lt_of_cell (h.row 0 (by omega))
theorem NdAt.level (h : NdAt w X x vv vl) : w.cell? ⟨X, 0, none⟩ = some (.int .i64 (x.level : Nat)) := h.row 0 (by omega)
theorem NdAt.prefix_ (h : NdAt w X x vv vl) : w.cell? ⟨X, 1, none⟩ = some (.int .i64 (x.prefix_ : Nat)) := h.row 1 (by omega)
theorem NdAt.key (h : NdAt w X x vv vl) : w.cell? ⟨X, 66, none⟩ = some (.int .i64 (x.key : Nat)) := h.row 66 (by omega)
theorem NdAt.val (h : NdAt w X x vv vl) : w.cell? ⟨X, 67, none⟩ = some vl := h.row 67 (by omega)
theorem NdAt.has (h : NdAt w X x vv vl) {i : Nat} (hi : i < 16) : w.cell? ⟨X, 50 + i, none⟩ = some (.bool (x.has i)) := by
  have := h.row (50 + i) (by omega)
  unfold nodeC at this
  rw [if_neg (by omega), if_neg (by omega), if_neg (by omega), if_neg (by omega), if_pos (by omega)] at this
  rw [this, Nat.add_sub_cancel_left]
theorem NdAt.vals (h : NdAt w X x vv vl) {i : Nat} (hi : i < 16) : w.cell? ⟨X, 34 + i, none⟩ = some (vv i) := by
  have := h.row (34 + i) (by omega)
  unfold nodeC at this
  rw [if_neg (by omega), if_neg (by omega), if_neg (by omega), if_pos (by omega)] at this
  rw [this, Nat.add_sub_cancel_left]
theorem NdAt.kid (h : NdAt w X x vv vl) {i : Nat} (hi : i < 16) : w.cell? ⟨X, 2 + i * 2, none⟩ = some (.int .i64 (x.kids i).1) ∧ w.cell? ⟨X, 2 + i * 2 + 1, none⟩ = some (.int .i64 (x.kids i).2) := by
  have h1 := h.row (2 + i * 2) (by omega)
  have h2 := h.row (2 + i * 2 + 1) (by omega)
  unfold nodeC at h1 h2
  rw [if_neg (by omega), if_neg (by omega), if_pos (by omega), if_pos (by omega), show (2 + i * 2 - 2) / 2 = i by omega] at h1
  rw [if_neg (by omega), if_neg (by omega), if_pos (by omega), if_neg (by omega), show (2 + i * 2 + 1 - 2) / 2 = i by omega] at h2
  exact ⟨h1, h2⟩
theorem SlB.off {S : Nat → Prop} {w w' : World} {v : Value} {L : Bytes} (h : SlB w v L) (ho : Off S w w') (hs : ∀ b o n c, v = .slice (Option.some ⟨b, o, none⟩) n c → ¬ S b) : SlB w' v L := by
  obtain ⟨A, n, c, rfl, h1, h2⟩ := h
  exact ⟨A, n, c, rfl, h1, h2.off ho fun k o e => hs k o n c (by rw [e])⟩
theorem SlB.up {w w' : World} {v : Value} {L : Bytes} (h : SlB w v L) (hb : Below w.heap.size w w') : SlB w' v L := h.off (S := fun _ => False) (Off.of_below hb) (fun _ _ _ _ _ => id)
theorem NdAt.up (h : NdAt w X x vv vl) {w' : World} (hb : Below w.heap.size w w') : NdAt w' X x vv vl :=
  ⟨fun k hk => (hb.cell (p := ⟨X, k, none⟩) h.lt).trans (h.row k hk), fun k => (hb.frozen (p := ⟨X, k, none⟩) h.lt).trans (h.free k), fun i hi => (h.vs i hi).up hb, h.v.up hb⟩
/-- The values are all that it needs beside its own block. -/
theorem NdAt.off {S : Nat → Prop} (h : NdAt w X x vv vl) {w' : World} (ho : Off S w w') (h1 : ¬ S X) (h2 : ∀ i b o n c, i < 16 → vv i = .slice (Option.some ⟨b, o, none⟩) n c → ¬ S b) (h3 : ∀ b o n c, vl = .slice (Option.some ⟨b, o, none⟩) n c → ¬ S b) : NdAt w' X x vv vl :=
  ⟨fun k hk => (ho.cell (p := ⟨X, k, none⟩) h.lt h1).trans (h.row k hk), fun k => (ho.frozen (p := ⟨X, k, none⟩) h.lt h1).trans (h.free k), fun i hi => (h.vs i hi).off ho fun b o n c e => h2 i b o n c hi e, h.v.off ho h3⟩
end

theorem pow16_le {a b : Nat} (h : a ≤ b) : 16 ^ a ≤ 16 ^ b := Nat.pow_le_pow_right (by omega) h
theorem RN.Ok.some_lt {x : RN} (h : x.Ok) : x.some < 16777216 := by
  unfold RN.some
  split
  · rename_i h6; exact h.ky h6
  · rename_i h6
    have h1 := h.lv
    have h2 := h.pr (by omega)
    have h3 : x.prefix_ * 16 ^ (6 - x.level) < 16 ^ x.level * 16 ^ (6 - x.level) := Nat.mul_lt_mul_of_pos_right h2 (Nat.pow_pos (by omega))
    rw [← Nat.pow_add, show x.level + (6 - x.level) = 6 by omega] at h3
    simpa using h3
set_option maxHeartbeats 1000000 in
theorem some_any {w : World} {X : Nat} {x : RN} {vv : Nat → Value} {vl : Value} (h : NdAt w X x vv vl) (ho : x.Ok) : Calls Try.prog 78 #[.pointer (some ⟨X, 0, none⟩)] w fun e w' => e = .returned (.int .i64 (x.some : Nat)) ∧ Below w.heap.size w w' := by
  have c0 := h.level
  have c1 := h.prefix_
  have c2 := h.key
  have hlt := ho.some_lt
  clear h
  by_cases h6 : x.level = 6
  · have hs : x.some = x.key := by unfold RN.some; rw [if_pos h6]
    rw [hs]
    rw [h6] at c0
    clear h6 hs hlt ho
    go_enter Try.func78, Try.ntmps78
    go_wp2
    go_ret
    exact ⟨rfl, Below.refl _ _⟩
  · obtain ⟨l, hl⟩ : ∃ l, l = x.level := ⟨_, rfl⟩
    obtain ⟨p, hp⟩ : ∃ p, p = x.prefix_ := ⟨_, rfl⟩
    obtain ⟨q, hq⟩ : ∃ q, q = x.some := ⟨_, rfl⟩
    have h1 := ho.lv
    have hs : q = p * 16 ^ (6 - l) := by rw [hq, hp, hl]; unfold RN.some; rw [if_neg h6]
    rw [← hq] at hlt ⊢
    rw [← hl] at c0 h1 h6
    rw [← hp] at c1
    clear hl hp hq ho
    have hpw : (16 : Nat) ^ (6 - l) = 2 ^ (4 * (6 - l)) := by rw [Nat.pow_mul]
    have hsi : (p : Int) * 2 ^ (4 * (6 - l)) = (q : Int) := by rw [hs, hpw]; simp
    clear hs hpw
    have hc : l = 0 ∨ l = 1 ∨ l = 2 ∨ l = 3 ∨ l = 4 ∨ l = 5 := by omega
    rcases hc with rfl | rfl | rfl | rfl | rfl | rfl
    all_goals
      simp at hsi
      go_enter Try.func78, Try.ntmps78
      go_wp2
      go_quiet (fail)
      go_wp2
      go_ret
      exact ⟨rfl, below_drewN (Below.refl _ _) _⟩
end Go.Proofs.Ytgkdggidgaifhaa
