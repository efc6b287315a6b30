/- The contracts of the document's Right, Less, may, best, and of the law's own of and same. -/
import Derived.Test.YtclcilbdopkamaaG
namespace Go.Proofs.Ytclcilbdopkamaa
open Go.RowKit
set_option linter.unusedVariables false
set_option linter.unusedSimpArgs false

theorem right_turn (s u z : Int) : rightB s u z = (decide (1 ≤ z) && (decide (z ≤ 1048576) && (decide (0 ≤ u) && (decide (u ≤ z) && decide (0 ≤ s))))) := by
  rw [Bool.eq_iff_iff]; simp [rightB]; omega

set_option maxHeartbeats 400000 in
theorem rright_any (s u z : Int) (f : Bool) (w : World) :
    Calls Try.prog 17 #[.agg #[.int .i64 s, .int .i64 u, .int .i64 z, .bool f]] w fun e w' => e = .returned (.bool (rightB s u z)) ∧ Below w.heap.size w w' := by
  have HR := Lib.hid (right_turn s u z)
  go_enter Try.func17, Try.ntmps17
  go_wp2
  all_goals
    go_ret
    refine ⟨ret_bool (by rw [HR.out]; simp [*]; try omega), by go_grown⟩

set_option maxHeartbeats 400000 in
theorem rless_any (s1 u1 z1 s2 u2 z2 : Int) (f1 f2 : Bool) (w : World) :
    Calls Try.prog 20 #[.agg #[.int .i64 s1, .int .i64 u1, .int .i64 z1, .bool f1], .agg #[.int .i64 s2, .int .i64 u2, .int .i64 z2, .bool f2]] w fun e w' => e = .returned (.bool (lessB s1 u1 z1 s2 u2 z2)) ∧ Below w.heap.size w w' := by
  go_enter Try.func20, Try.ntmps20
  go_wp2
  all_goals
    go_ret
    refine ⟨ret_bool (by simp [lessB, *]), by go_grown⟩

set_option maxHeartbeats 400000 in
theorem rmay_any (s u z : Int) (f : Bool) (w : World) :
    Calls Try.prog 24 #[.agg #[.int .i64 s, .int .i64 u, .int .i64 z, .bool f]] w fun e w' => e = .returned (.bool (mayB s u z f)) ∧ Below w.heap.size w w' := by
  go_enter Try.func24, Try.ntmps24
  go_wp2_with (go_at_call 17; refine (rright_any _ _ _ _ _).mono ?_; rintro e w' ⟨rfl, hb⟩; obtain ⟨hc, hf⟩ := bcell hb)
  all_goals
    go_ret
    refine ⟨ret_bool (by simp [mayB, *]), below_upto ((Below.refl _ _).alloc (Nat.le_refl _) _) hb (Nat.le_refl _)⟩

theorem rright_is {s u z : Int} {b : Bool} (f : Bool) (w : World) (h : rightB s u z = b) :
    Calls Try.prog 17 #[.agg #[.int .i64 s, .int .i64 u, .int .i64 z, .bool f]] w fun e w' => e = .returned (.bool b) ∧ Below w.heap.size w w' := h ▸ rright_any s u z f w
theorem rless_is {s1 u1 z1 s2 u2 z2 : Int} {b : Bool} (f1 f2 : Bool) (w : World) (h : lessB s1 u1 z1 s2 u2 z2 = b) :
    Calls Try.prog 20 #[.agg #[.int .i64 s1, .int .i64 u1, .int .i64 z1, .bool f1], .agg #[.int .i64 s2, .int .i64 u2, .int .i64 z2, .bool f2]] w fun e w' => e = .returned (.bool b) ∧ Below w.heap.size w w' := h ▸ rless_any s1 u1 z1 s2 u2 z2 f1 f2 w
theorem rmay_is {s u z : Int} {f b : Bool} (w : World) (h : mayB s u z f = b) :
    Calls Try.prog 24 #[.agg #[.int .i64 s, .int .i64 u, .int .i64 z, .bool f]] w fun e w' => e = .returned (.bool b) ∧ Below w.heap.size w w' := h ▸ rmay_any s u z f w

set_option maxHeartbeats 400000 in
theorem same_any (s u z : Int) (f : Bool) (w : World) :
    Calls Try.prog 15 #[.agg #[.int .i64 s, .int .i64 u, .int .i64 z, .bool f], .agg #[.int .i64 s, .int .i64 u, .int .i64 z, .bool f]] w fun e w' => e = .returned (.bool true) ∧ Below w.heap.size w w' := by
  go_enter Try.func15, Try.ntmps15
  go_wp2
  all_goals
    go_ret
    refine ⟨ret_bool (by simp), by go_grown⟩

set_option maxHeartbeats 1000000 in
theorem best_any (n c c' : Nat) (A B : Option Addr) (L : Nat → Ld) (G : Nat → Bool) (w : World) (hn : n ≤ maxLen) (hA : SL w A n L) (hB : SB w B n G) :
    Calls Try.prog 22 #[.slice A n c, .slice B n c'] w fun e w' => e = .returned (.int .i64 (bestTo L G n)) ∧ Below w.heap.size w w' := by
  unfold maxLen at hn
  have HA := Lib.hid hA
  have HB := Lib.hid hB
  clear hA hB
  go_enter Try.func22, Try.ntmps22
  go_wp2
  go_loopw [5, 6] (fun v i wr => ∃ (k : Nat) (x : Int), k ≤ n ∧ i = .int .i64 k ∧ v = .int .i64 x ∧ bestTo L G k = x ∧ Below w.heap.size w wr) (fun _ i _ => n - (intOf i).toNat)
  case atStart => exact ⟨0, -1, Nat.zero_le _, rfl, rfl, rfl, Below.refl _ _⟩
  case round =>
    obtain ⟨k, v, hk, rfl, rfl, hv, hb⟩ := hrel
    by_cases hlt : k < n
    · obtain ⟨b, o, e1, q1, q2, c0, c1, c2, c3⟩ := HA.out.at_ hb hlt
      obtain ⟨b', o', rfl, hbl', hcl'⟩ := HB.out (by omega)
      have g0 := hcl' k hlt
      rw [← hb.cell (p := ⟨b', o' + k, none⟩) hbl'] at g0
      have q3 : b' < wr.heap.size := Nat.lt_of_lt_of_le hbl' hb.size
      obtain ⟨hv0, hv1⟩ : -1 ≤ v ∧ v < k := hv ▸ bestTo_bd L G k
      have HV := Lib.hid hv
      have HK : Hid (∀ (v' : Int) (w1 : World), bestTo L G (k + 1) = v' → Below wr.heap.size wr w1 → ∃ (k' : Nat) (x : Int), k' ≤ n ∧ Value.int .i64 ((k : Int) + 1) = .int .i64 k' ∧ Value.int .i64 v' = .int .i64 x ∧ bestTo L G k' = x ∧ Below w.heap.size w w1) := by
        intro v' w1 h1 h2
        exact ⟨k + 1, v', by omega, by go_num, rfl, h1, below_upto hb h2 (Nat.le_refl _)⟩
      by_cases hG : G k = true
      · cases e1
        clear hcl' hb hv
        go_wp2
        refine wp_region_up (by kernel_rfl) (by kernel_rfl) ?_
        repeat (go_big_quiet_step (fail))
        refine wpQuiet_nil ?_
        rintro _ ⟨⟨w1, hb1⟩, rfl⟩
        have HB1 := Lib.hid hb1
        clear hb1
        go_wp2
        go_roundw
        case rel => exact HK.out _ _ (by rw [bestTo_gone hG]; exact HV.out) HB1.out
        case measure => simp [intOf]; omega
      have hG : G k = false := by simpa using hG
      by_cases hM : mayB (L k).s (L k).u (L k).z (L k).f = true
      · have hz := may_z hM
        by_cases hv2 : v < 0
        · cases e1
          clear hcl' hb hv
          go_wp2
          refine wp_region_up (by kernel_rfl) (by kernel_rfl) ?_
          repeat (go_big_quiet_step (first | (go_at_call 24; exact Calls.up_of (rmay_is _ hM))))
          refine wpQuiet_nil ?_
          rintro _ ⟨⟨w1, hb1⟩, rfl⟩
          have HB1 := Lib.hid hb1
          clear hb1
          go_wp2
          go_roundw
          case rel => exact HK.out _ _ (bestTo_first hG hM (by rw [HV.out]; exact hv2)) HB1.out
          case measure => simp [intOf]; omega
        · obtain ⟨j, rfl⟩ := Int.eq_ofNat_of_zero_le (Int.not_lt.1 hv2)
          obtain ⟨b2, o2, e2, _, _, d0, d1, d2, d3⟩ := HA.out.at_ (k := j) hb (by omega)
          cases e1
          cases e2
          clear hcl' hb hv
          have hd : decide ((j : Int) < 0) = false := by simp
          cases hS : lessB (L k).s (L k).u (L k).z (L j).s (L j).u (L j).z
          all_goals
            go_wp2
            refine wp_region_up (by kernel_rfl) (by kernel_rfl) ?_
            repeat (go_big_quiet_step (first | (go_at_call 24; exact Calls.up_of (rmay_is _ hM)) | (go_at_call 20; exact Calls.up_of (rless_is _ _ _ hS))))
            refine wpQuiet_nil ?_
            rintro _ ⟨⟨w1, hb1⟩, rfl⟩
            have HB1 := Lib.hid hb1
            clear hb1
            go_wp2
            go_roundw
            case rel => exact HK.out _ _ (bestTo_next hG hM HV.out hS) HB1.out
            case measure => simp [intOf]; omega
      · have hM : mayB (L k).s (L k).u (L k).z (L k).f = false := by simpa using hM
        cases e1
        clear hcl' hb hv
        go_wp2
        refine wp_region_up (by kernel_rfl) (by kernel_rfl) ?_
        repeat (go_big_quiet_step (first | (go_at_call 24; exact Calls.up_of (rmay_is _ hM))))
        refine wpQuiet_nil ?_
        rintro _ ⟨⟨w1, hb1⟩, rfl⟩
        have HB1 := Lib.hid hb1
        clear hb1
        go_wp2
        go_roundw
        case rel => exact HK.out _ _ (by rw [bestTo_not hM]; exact HV.out) HB1.out
        case measure => simp [intOf]; omega
    · go_wp2
      go_ret
      have e : k = n := by omega
      subst e
      exact ⟨by rw [hv]; rfl, hb⟩
end Go.Proofs.Ytclcilbdopkamaa
