/- The contracts of clean.Right, clean.Less, clean.may: what they answer, and that they make new memory alone. -/
import Derived.Test.YteckbhpjhohanaaBase
namespace Go.Proofs.Yteckbhpjhohanaa
open Go.RowKit
set_option linter.unusedVariables false

def rightB (s u z : Int) : Bool := decide (0 ≤ s) && (decide (1 ≤ z) && (decide (z ≤ 1048576) && (decide (0 ≤ u) && decide (u ≤ z))))
def mayB (s u z : Int) (f : Bool) : Bool := rightB s u z && (!f && decide (u < z))
def lessB (s1 u1 z1 s2 u2 z2 : Int) : Bool := decide (wrap64 (u1 * z2) < wrap64 (u2 * z1)) || (wrap64 (u1 * z2) == wrap64 (u2 * z1)) && decide (s1 < s2)

set_option maxHeartbeats 400000 in
theorem right_any (s u z : Int) (f : Bool) (w : World) :
    Calls Try.prog 17 #[.agg #[.int .i64 s, .int .i64 u, .int .i64 z, .bool f]] w fun e w' => e = .returned (.bool (rightB s u z)) ∧ Below w.heap.size w w' := by
  go_enter Try.func17, Try.ntmps17
  go_wp2
  all_goals
    go_ret
    refine ⟨ret_bool (by simp [rightB, *]; try omega), by go_grown⟩

set_option maxHeartbeats 400000 in
theorem less_any (s1 u1 z1 s2 u2 z2 : Int) (f1 f2 : Bool) (w : World) :
    Calls Try.prog 14 #[.agg #[.int .i64 s1, .int .i64 u1, .int .i64 z1, .bool f1], .agg #[.int .i64 s2, .int .i64 u2, .int .i64 z2, .bool f2]] w fun e w' => e = .returned (.bool (lessB s1 u1 z1 s2 u2 z2)) ∧ Below w.heap.size w w' := by
  go_enter Try.func14, Try.ntmps14
  go_wp2
  go_quiet (fail)
  go_wp2
  all_goals
    go_ret
    refine ⟨ret_bool (by simp [lessB, *]), below_drewN (by go_grown) _⟩

set_option maxHeartbeats 400000 in
theorem may_any (s u z : Int) (f : Bool) (w : World) :
    Calls Try.prog 13 #[.agg #[.int .i64 s, .int .i64 u, .int .i64 z, .bool f]] w fun e w' => e = .returned (.bool (mayB s u z f)) ∧ Below w.heap.size w w' := by
  go_enter Try.func13, Try.ntmps13
  go_wp2_with (go_at_call 17; refine (right_any _ _ _ _ _).mono ?_; rintro e w' ⟨rfl, hb⟩; obtain ⟨hc, hf⟩ := bcell hb)
  all_goals
    go_ret
    refine ⟨ret_bool (by simp [mayB, *]), below_upto ((Below.refl _ _).alloc (Nat.le_refl _) _) hb (Nat.le_refl _)⟩

theorem right_is {s u z : Int} {b : Bool} (f : Bool) (w : World) (h : rightB s u z = b) :
    Calls Try.prog 17 #[.agg #[.int .i64 s, .int .i64 u, .int .i64 z, .bool f]] w fun e w' => e = .returned (.bool b) ∧ Below w.heap.size w w' := h ▸ right_any s u z f w
theorem less_is {s1 u1 z1 s2 u2 z2 : Int} {b : Bool} (f1 f2 : Bool) (w : World) (h : lessB s1 u1 z1 s2 u2 z2 = b) :
    Calls Try.prog 14 #[.agg #[.int .i64 s1, .int .i64 u1, .int .i64 z1, .bool f1], .agg #[.int .i64 s2, .int .i64 u2, .int .i64 z2, .bool f2]] w fun e w' => e = .returned (.bool b) ∧ Below w.heap.size w w' := h ▸ less_any s1 u1 z1 s2 u2 z2 f1 f2 w
theorem may_is {s u z : Int} {f b : Bool} (w : World) (h : mayB s u z f = b) :
    Calls Try.prog 13 #[.agg #[.int .i64 s, .int .i64 u, .int .i64 z, .bool f]] w fun e w' => e = .returned (.bool b) ∧ Below w.heap.size w w' := h ▸ may_any s u z f w
end Go.Proofs.Yteckbhpjhohanaa
