/- The walk of CleanPlans. -/
import Derived.Test.YtclcilbdopkamaaT
namespace Go.Proofs.Ytclcilbdopkamaa
open Go.RowKit
set_option linter.unusedVariables false
set_option linter.unusedSimpArgs false

theorem OwnL.up {w w' : World} {base : Nat} {e : TypeId} {v : Value} {t : Nat} {M : Nat → Ld} (h : OwnL w base e v t M) (hb : Below w.heap.size w w') : OwnL w' base e v t M := ownsRow_up h hb

theorem plan_one {L : Nat → Ld} {n T T' : Nat} {need : Int} (h : PlanLen L n need T) (h' : PlanLen L n need T') : T = T' := by
  have a := plan_le L n T T' need 0 (by omega) h (by simpa using h')
  have b := plan_le L n T' T need 0 (by omega) h' (by simpa using h)
  omega

theorem victim_form (L : Nat → Ld) (n : Nat) : ∃ s u z f i, victimV L n = .tuple #[.agg #[.int .i64 s, .int .i64 u, .int .i64 z, .bool f], .bool i] := by
  unfold victimV
  split
  · exact ⟨_, _, _, _, _, rfl⟩
  · exact ⟨_, _, _, _, _, rfl⟩

theorem new4 {W w' : World} {a b c d : Value} {t : TypeId} (hb : Below (W.alloc (.cells #[a, b, c, d] t)).heap.size (W.alloc (.cells #[a, b, c, d] t)) w') :
    w'.cell? ⟨W.heap.size, 0, none⟩ = some a ∧ w'.cell? ⟨W.heap.size, 1, none⟩ = some b ∧ w'.cell? ⟨W.heap.size, 2, none⟩ = some c ∧ w'.cell? ⟨W.heap.size, 3, none⟩ = some d := by
  have h : ∀ i, w'.cell? ⟨W.heap.size, i, none⟩ = #[a, b, c, d][i]? := fun i => by
    rw [hb.cell (p := ⟨W.heap.size, i, none⟩) (by simp), cell_of_row _ _ _ _ _ _ (heap_alloc_new W _)]
  exact ⟨h 0, h 1, h 2, h 3⟩

set_option maxRecDepth 100000 in
set_option maxHeartbeats 8000000 in
theorem plans_walk (n c : Nat) (A : Option Addr) (need part : Int) (L : Nat → Ld) (w : World) (hn : n ≤ maxLen) (hA : SL w A n L) :
    Calls Try.prog 5 #[.slice A n c, .int .i64 need, .int .i64 part] w fun e w' => e = .returned (.bool true) ∧ Below w.heap.size w w' := by
  unfold maxLen at hn
  have HA := Lib.hid hA
  clear hA
  by_cases good : n ≤ 200
  case neg =>
    go_enter Try.func5, Try.ntmps5
    go_wp2_with fail
    refine (known_any _).mono ?_
    rintro e w1 ⟨rfl, hb1⟩
    go_wp2_with fail
    go_ret
    exact ⟨rfl, hb1⟩
  case pos =>
    clear hn
    obtain ⟨s, u, z, f, i, hvf⟩ := victim_form L n
    have HVF := Lib.hid hvf
    clear hvf
    go_enter Try.func5, Try.ntmps5
    go_wp2_with fail
    refine (known_any _).mono ?_
    rintro e w1 ⟨rfl, hb1⟩
    go_wp2_with fail
    refine (of_any n c A L w1 good (HA.out.up hb1)).mono ?_
    rintro e w2 ⟨v, rfl, hO, hb2⟩
    obtain ⟨A7, c7, rfl, hS⟩ := hO.sl
    have HB2 := Lib.hid (below_upto hb1 hb2 (Nat.le_refl _))
    have HS := Lib.hid hS
    clear hb1 hb2 hO hS
    go_wp2_with fail
    refine (Victim_any n c A L w2 (by omega) (HA.out.up HB2.out)).mono ?_
    rintro e w3 ⟨rfl, hb3⟩
    rw [HVF.out]
    have HB3 := Lib.hid (below_upto HB2.out hb3 (Nat.le_refl _))
    have HS3 := Lib.hid (HS.out.up hb3)
    clear hb3
    go_wp2_with fail
    refine (rVictim_any n c7 A7 L _ (by omega) (HS3.out.up ((Below.refl _ _).alloc (Nat.le_refl _) _))).mono ?_
    rintro e w4 ⟨rfl, hb4⟩
    rw [HVF.out]
    have HN4 := Lib.hid hb4
    have HB4 := Lib.hid (below_upto (HB3.out.alloc HB3.out.size _) hb4 (Nat.le_refl _))
    have HS4 := Lib.hid ((HS3.out.up ((Below.refl _ _).alloc (Nat.le_refl _) _)).up hb4)
    clear hb4
    go_wp2_with fail
    refine (Plan_any n c A need L _ good (HA.out.up (HB4.out.alloc HB4.out.size _))).mono ?_
    rintro e w5 ⟨T, v, rfl, hT, hO, hb5⟩
    obtain ⟨A1, c1, rfl, hS1⟩ := hO.sl
    have HT := Lib.hid hT
    have HS1 := Lib.hid hS1
    have HN5 := Lib.hid hb5
    clear hT hS1 hO hb5
    go_wp2_with fail
    refine (rPlan_any n c7 A7 need L w5 good ((HS4.out.up ((Below.refl _ _).alloc (Nat.le_refl _) _)).up HN5.out)).mono ?_
    rintro e w6 ⟨T', v', rfl, hT', hO', hb6⟩
    obtain rfl := plan_one HT.out hT'
    obtain ⟨A2, c2, rfl, hS2⟩ := hO'.sl
    have b5 := below_upto (HB4.out.alloc HB4.out.size _) HN5.out (Nat.le_refl _)
    have b6 := below_upto b5 hb6 (Nat.le_refl _)
    have HB6 := Lib.hid b6
    have n5 := below_upto HN5.out hb6 (Nat.le_refl _)
    have n4 := below_upto HN4.out (below_upto ((Below.refl _ _).alloc (Nat.le_refl _) _) n5 (Nat.le_refl _)) (Nat.le_refl _)
    obtain ⟨x0, x1, x2, x3⟩ := new4 n4
    obtain ⟨y0, y1, y2, y3⟩ := new4 n5
    have HS16 := Lib.hid (HS1.out.up hb6)
    have HS26 := Lib.hid hS2
    have HS76 := Lib.hid (((HS4.out.up ((Below.refl _ _).alloc (Nat.le_refl _) _)).up HN5.out).up hb6)
    have hTn : T ≤ n := seq_le L n T fun i hi => (HT.out.go i hi).2
    obtain ⟨x, hx⟩ : ∃ x, x = frd L n T := ⟨_, rfl⟩
    rw [← hx]
    clear hx b5 b6 n5 n4 hS2 hO' hT' hb6
    go_wp2_with fail
    refine (same_any _ _ _ _ _).mono ?_
    rintro e w7 ⟨rfl, hb7⟩
    have HB7 := Lib.hid (below_upto HB6.out hb7 (Nat.le_refl _))
    have HS17 := Lib.hid (HS16.out.up hb7)
    have HS27 := Lib.hid (HS26.out.up hb7)
    have HS77 := Lib.hid (HS76.out.up hb7)
    clear hb7 x0 x1 x2 x3 y0 y1 y2 y3
    go_wp2_with fail
    refine (Gain_any n c A L w7 good (HA.out.up HB7.out)).mono ?_
    rintro e w8 ⟨rfl, hb8⟩
    go_wp2_with fail
    refine (rGain_any n c7 A7 L w8 good (HS77.out.up hb8)).mono ?_
    rintro e w9 ⟨rfl, hb9⟩
    have n9 := below_upto hb8 hb9 (Nat.le_refl _)
    have HB9 := Lib.hid (below_upto HB7.out n9 (Nat.le_refl _))
    have HS19 := Lib.hid (HS17.out.up n9)
    have HS29 := Lib.hid (HS27.out.up n9)
    have HS79 := Lib.hid (HS77.out.up n9)
    clear hb8 hb9 n9
    go_wp2_with fail
    go_loopw [16] (fun i wr => ∃ k : Nat, k ≤ T ∧ i = .int .i64 k ∧ Below w9.heap.size w9 wr) (fun i _ => T - (intOf i).toNat)
    case atStart => exact ⟨0, Nat.zero_le _, rfl, Below.refl _ _⟩
    case round =>
      obtain ⟨k, hk, rfl, hb⟩ := hrel
      by_cases hlt : k < T
      · obtain ⟨b1, o1, e1, q1, q2, d0, d1, d2, d3⟩ := HS19.out.at_ hb hlt
        obtain ⟨b2, o2, e2, r1, r2, f0, f1, f2, f3⟩ := HS29.out.at_ hb hlt
        cases e1
        cases e2
        have HB := Lib.hid hb
        clear hb
        go_wp2
        refine wp_region_up (by kernel_rfl) (by kernel_rfl) ?_
        repeat (go_big_quiet_step (first | (go_at_call 15; exact Calls.up_of (same_any _ _ _ _ _))))
        refine wpQuiet_nil ?_
        rintro _ ⟨⟨w10, hb10⟩, rfl⟩
        have HB10 := Lib.hid hb10
        clear hb10
        go_wp2
        go_roundw
        case rel => exact ⟨k + 1, by omega, by go_num, below_upto HB.out HB10.out (Nat.le_refl _)⟩
        case measure => simp [intOf]; omega
      · have HB := Lib.hid hb
        clear hb
        go_wp2
        go_loopw [2, 17] (fun v i ws => ∃ (m : Nat) (p : Int), m ≤ n ∧ i = .int .i64 m ∧ v = .int .i64 p ∧ Below w9.heap.size w9 ws) (fun _ i _ => n - (intOf i).toNat)
        case atStart => exact ⟨0, part, Nat.zero_le _, rfl, rfl, HB.out⟩
        case round =>
          obtain ⟨m, p, hm, rfl, rfl, hb⟩ := hrel
          by_cases hlt2 : m < n
          · obtain ⟨b3, o3, e3, q3, q4, d0, d1, d2, d3⟩ := (HA.out.up HB9.out).at_ hb hlt2
            obtain ⟨b4, o4, e4, q5, q6, f0, f1, f2, f3⟩ := HS79.out.at_ hb hlt2
            cases hr : rightB (L m).s (L m).u (L m).z
            all_goals
              have hr2 := hr
              rcases Nat.lt_or_ge 0 m with hm0 | hm0
              case' inl =>
                have hd : decide (0 < m) = true := by simp; omega
                obtain ⟨b5, o5, e5, q7, q8, g0, g1, g2, g3⟩ := (HA.out.up HB9.out).at_ (k := m - 1) hb (by omega)
                obtain ⟨b6, o6, e6, q9, q10, h0, h1, h2, h3⟩ := HS79.out.at_ (k := m - 1) hb (by omega)
                cases e3
                cases e4
                cases e5
                cases e6
                cases hr3 : rightB (L (m - 1)).s (L (m - 1)).u (L (m - 1)).z
              case' inr =>
                have hd : decide (0 < m) = false := by simp; omega
                cases e3
                cases e4
              all_goals
                have HBB := Lib.hid hb
                clear hb
                go_wp2
                all_goals
                  refine wp_region_up (by kernel_rfl) (by kernel_rfl) ?_
                  repeat (go_big_quiet_step (first | (go_at_call 7; exact Calls.up_of (right_is _ _ (by assumption))) | (go_at_call 17; exact Calls.up_of (rright_is _ _ (by assumption))) | (go_at_call 18; exact Calls.up_of (worth_any _ _ _ _ _ _)) | (go_at_call 19; exact Calls.up_of (rworth_any _ _ _ _ _ _)) | (go_at_call 8; exact Calls.up_of (less_any _ _ _ _ _ _ _ _ _)) | (go_at_call 20; exact Calls.up_of (rless_any _ _ _ _ _ _ _ _ _))))
                  refine wpQuiet_nil ?_
                  rintro _ ⟨⟨w11, hb11⟩, rfl⟩
                  have HB11 := Lib.hid hb11
                  obtain ⟨hc11, hf11⟩ := bcell hb11
                  have z3 := Nat.lt_of_lt_of_le q4 hb11.size
                  have z4 := Nat.lt_of_lt_of_le q6 hb11.size
                  clear hb11 hf11
                  go_wp2
                  refine wp_region_up (by kernel_rfl) (by kernel_rfl) ?_
                  repeat (go_big_quiet_step (first | (go_at_call 7; exact Calls.up_of (right_is _ _ (by assumption))) | (go_at_call 17; exact Calls.up_of (rright_is _ _ (by assumption))) | (go_at_call 18; exact Calls.up_of (worth_any _ _ _ _ _ _)) | (go_at_call 19; exact Calls.up_of (rworth_any _ _ _ _ _ _)) | (go_at_call 8; exact Calls.up_of (less_any _ _ _ _ _ _ _ _ _)) | (go_at_call 20; exact Calls.up_of (rless_any _ _ _ _ _ _ _ _ _))))
                  refine wpQuiet_nil ?_
                  rintro _ ⟨⟨w12, hb12⟩, rfl⟩
                  have HB12 := Lib.hid hb12
                  clear hb12 hc11
                  go_wp2
                  go_roundw
                  case rel => exact ⟨m + 1, _, by omega, by go_num, rfl, below_upto (below_upto HBB.out HB11.out (Nat.le_refl _)) HB12.out (Nat.le_refl _)⟩
                  case measure => simp [intOf]; omega
          · go_wp2
            go_ret
            exact ⟨rfl, below_upto HB9.out hb (Nat.le_refl _)⟩
end Go.Proofs.Ytclcilbdopkamaa
