/- The walk of CleanGreedy. -/
import Derived.Test.YtclcilbdopkamaaG
namespace Go.Proofs.Ytclcilbdopkamaa
open Go.RowKit
set_option linter.unusedVariables false
set_option linter.unusedSimpArgs false

theorem OwnL.up {w w' : World} {base : Nat} {e : TypeId} {v : Value} {t : Nat} {M : Nat → Ld} (h : OwnL w base e v t M) (hb : Below w.heap.size w w') : OwnL w' base e v t M := ownsRow_up h hb

theorem one_right {l : Ld} (h : rightB l.s l.u l.z = true) : gainTo (fun _ => l) 1 = l.z - l.u := by simp [gainTo, h, Ld.free]

theorem SL_one (W : World) (g : Nat) (hg : g = W.heap.size) (l : Ld) (t : TypeId) : SL (W.alloc (.cells #[.int .i64 l.s, .int .i64 l.u, .int .i64 l.z, .bool l.f] t)) (some ⟨g, 0, none⟩) 1 (fun _ => l) := by
  subst hg
  intro _
  refine ⟨_, _, rfl, by simp, fun k hk => ?_⟩
  obtain rfl : k = 0 := by omega
  simp only [cell_of_row _ _ _ _ _ _ (heap_alloc_new W _)]
  exact ⟨rfl, rfl, rfl, rfl⟩

theorem freeTo_yes {M : Nat → Ld} {k : Nat} (h : rightB (M k).s (M k).u (M k).z = true) (h2 : (M k).f = false) : freeTo M (k + 1) = freeTo M k + (M k).z - (M k).u := by simp [freeTo, h, h2, Ld.free]; omega
theorem freeTo_no {M : Nat → Ld} {k : Nat} (h : rightB (M k).s (M k).u (M k).z = false) : freeTo M (k + 1) = freeTo M k := by simp [freeTo, h]
theorem freeTo_fix {M : Nat → Ld} {k : Nat} (h : (M k).f = true) : freeTo M (k + 1) = freeTo M k := by simp [freeTo, h]

set_option maxRecDepth 100000 in
set_option maxHeartbeats 4000000 in
theorem greedy_walk (n c : Nat) (A : Option Addr) (need more : Int) (L : Nat → Ld) (w : World) (hn : n ≤ maxLen) (hA : SL w A n L) :
    Calls Try.prog 4 #[.slice A n c, .int .i64 need, .int .i64 more] w fun e w' => e = .returned (.bool true) ∧ Below w.heap.size w w' := by
  unfold maxLen at hn
  by_cases good : n ≤ 200 ∧ 0 ≤ need ∧ 0 ≤ more ∧ need ≤ 1099511627776 ∧ more ≤ 1099511627776
  case neg =>
    have HA := Lib.hid hA
    clear hA
    have hbad : 200 < n ∨ need < 0 ∨ more < 0 ∨ 1099511627776 < need ∨ 1099511627776 < more := by omega
    clear good
    go_enter Try.func4, Try.ntmps4
    go_wp2_with fail
    refine (known_any _).mono ?_
    rintro e w1 ⟨rfl, hb1⟩
    rcases hbad with h | h | h | h | h
    all_goals
      go_wp2_with fail
      all_goals
        go_ret
        exact ⟨rfl, hb1⟩
  case pos =>
    obtain ⟨hn2, h1, h2, h3, h4⟩ := good
    have HA := Lib.hid hA
    clear hA
    go_enter Try.func4, Try.ntmps4
    go_wp2_with fail
    refine (known_any _).mono ?_
    rintro e w1 ⟨rfl, hb1⟩
    go_wp2_with fail
    refine (Plan_any n c A need L w1 hn2 (HA.out.up hb1)).mono ?_
    rintro e w2 ⟨T, v, rfl, hT, hO, hb2⟩
    obtain ⟨A1, c1, rfl, hS1⟩ := hO.sl
    have HB2 := Lib.hid (below_upto hb1 hb2 (Nat.le_refl _))
    have HT := Lib.hid hT
    have HS1 := Lib.hid hS1
    clear hb1 hb2 hT hS1 hO
    go_wp2_with fail
    refine (Plan_any n c A (need + more) L w2 hn2 (HA.out.up HB2.out)).mono ?_
    rintro e w3 ⟨T', v', rfl, hT', hO', hb3⟩
    obtain ⟨A2, c2, rfl, hS2⟩ := hO'.sl
    have HB3 := Lib.hid (below_upto HB2.out hb3 (Nat.le_refl _))
    have HS1' := Lib.hid (HS1.out.up hb3)
    have HS2 := Lib.hid hS2
    have HT' := Lib.hid hT'
    have hTT : T ≤ T' := plan_le L n T T' need more h2 HT.out hT'
    have hTn : T' ≤ n := seq_le L n T' fun i hi => (hT'.go i hi).2
    have hfr : frd L n T ≤ frd L n T' := frd_mono L n T T' (fun i hi => (hT'.go i hi).2) hTT
    obtain ⟨_, _, _, x0, x1⟩ := seq_inv L n T fun i hi => (HT.out.go i hi).2
    clear hb3 hT' hS2 hO'
    obtain ⟨x, hx⟩ : ∃ x, x = frd L n T := ⟨_, rfl⟩
    obtain ⟨x', hx'⟩ : ∃ x, x = frd L n T' := ⟨_, rfl⟩
    rw [← hx, ← hx'] at hfr
    rw [← hx] at x0 x1
    rw [← hx, ← hx']
    have HX := Lib.hid hx
    clear hx hx'
    have hxn : (x != x) = false := by simp
    rcases Nat.lt_or_ge 0 T with hT1 | hT0
    case' inr =>
      go_wp2_with fail
      refine (Gain_any T c1 A1 (planM L n) w3 (by omega) HS1'.out).mono ?_
      rintro e w5 ⟨rfl, hb4⟩
      rw [show gainTo (planM L n) T = x from (gain_plan L n T need HT.out T (Nat.le_refl _)).trans HX.out.symm]
      have HB5 := Lib.hid (below_upto HB3.out hb4 (Nat.le_refl _))
      have HS15 := Lib.hid (HS1'.out.up hb4)
      have HS25 := Lib.hid (HS2.out.up hb4)
      clear hb4
      go_wp2_with fail
    case' inl =>
      go_wp2_with fail
      refine (Gain_any T c1 A1 (planM L n) w3 (by omega) HS1'.out).mono ?_
      rintro e w4 ⟨rfl, hb4⟩
      rw [show gainTo (planM L n) T = x from (gain_plan L n T need HT.out T (Nat.le_refl _)).trans HX.out.symm]
      obtain ⟨b, o, rfl, q0, q1, d0, d1, d2, d3⟩ := HS1'.out.at_ (k := T - 1) hb4 (by omega)
      have hm := may_bd (plan_may L n T need HT.out (T - 1) (by omega))
      have HM := Lib.hid hm
      have hlast : x = frd L n (T - 1) + ((planM L n (T - 1)).z - (planM L n (T - 1)).u) := by
        rw [HX.out, show T = (T - 1) + 1 by omega]; rfl
      have hlt := (HT.out.go (T - 1) (by omega)).1
      obtain ⟨y, hy⟩ : ∃ y, y = (planM L n (T - 1)) := ⟨_, rfl⟩
      obtain ⟨ys, yu, yz, yf⟩ := y
      have HY := Lib.hid hy
      rw [← hy] at d0 d1 d2 d3 hlast
      simp only at d0 d1 d2 d3 hlast
      have hry : rightB ys yu yz = true := by have := hm.2.2.2.2.2.2; rw [show L (pick L n (T - 1)).toNat = planM L n (T - 1) from rfl, ← hy] at this; exact this
      have hrb := right_bd hry
      clear hm hy
      have hge : decide (need ≤ x - (yz - yu)) = false := by simp; omega
      have hge' : x - (yz - yu) < need := by omega
      have HB4 := Lib.hid (below_upto HB3.out hb4 (Nat.le_refl _))
      have HS14 := Lib.hid (HS1'.out.up hb4)
      have HS24 := Lib.hid (HS2.out.up hb4)
      clear hlast hlt hb4
      go_wp2_with fail
      refine (Gain_any 1 1 _ (fun _ => ⟨ys, yu, yz, yf⟩) _ (by omega) (SL_one _ _ rfl ⟨ys, yu, yz, yf⟩ _)).mono ?_
      rintro e w5 ⟨rfl, hb5⟩
      rw [one_right (l := ⟨ys, yu, yz, yf⟩) hry]
      have HB5 := Lib.hid (below_upto (HB4.out.alloc HB4.out.size _) hb5 (Nat.le_refl _))
      have hb45 := below_upto ((Below.refl w4.heap.size w4).alloc (Nat.le_refl _) _) hb5 (Nat.le_refl _)
      have HS15 := Lib.hid (HS14.out.up hb45)
      have HS25 := Lib.hid (HS24.out.up hb45)
      clear hb5 hb45 d0 d1 d2 d3
      go_wp2_with fail
    all_goals
      go_loopw [11] (fun i wr => ∃ k : Nat, k ≤ T ∧ i = .int .i64 k ∧ Below w5.heap.size w5 wr) (fun i _ => T - (intOf i).toNat)
      case atStart => exact ⟨0, Nat.zero_le _, rfl, Below.refl _ _⟩
      case round =>
        obtain ⟨k, hk, rfl, hb⟩ := hrel
        by_cases hlt : k < T
        · first
          | (exfalso; omega)
          | (obtain ⟨b1, o1, e1, q1, q2, d0, d1, d2, d3⟩ := HS15.out.at_ hb hlt
             obtain ⟨b2, o2, e2, r1, r2, f0, f1, f2, f3⟩ := HS25.out.at_ (k := k) hb (by omega)
             cases e1
             cases e2
             have hm := may_bd (plan_may L n T need HT.out k hlt)
             obtain ⟨ye, hy⟩ : ∃ y, y = (planM L n k) := ⟨_, rfl⟩
             obtain ⟨ys, yu, yz, yf⟩ := ye
             rw [show L (pick L n k).toNat = planM L n k from rfl] at hm
             rw [← hy] at d0 d1 d2 d3 f0 f1 f2 f3 hm
             simp only at d0 d1 d2 d3 f0 f1 f2 f3 hm
             obtain ⟨_, _, _, _, _, hyf, hry⟩ := hm
             subst hyf
             have HB := Lib.hid hb
             clear hb hy
             go_wp2
             refine wp_region_up (by kernel_rfl) (by kernel_rfl) ?_
             repeat (go_big_quiet_step (first | (go_at_call 7; exact Calls.up_of (right_is _ _ hry))))
             refine wpQuiet_nil ?_
             rintro _ ⟨⟨w6, hb6⟩, rfl⟩
             have HB6 := Lib.hid hb6
             clear hb6
             go_wp2
             go_roundw
             case rel => exact ⟨k + 1, by omega, by go_num, below_upto HB.out HB6.out (Nat.le_refl _)⟩
             case measure => simp [intOf]; omega)
        · have HB := Lib.hid (below_upto HB5.out hb (Nat.le_refl _))
          clear hb
          by_cases hnd : need ≤ x
          · go_wp2
            go_ret
            exact ⟨rfl, HB.out⟩
          · have HF := Lib.hid (plan_all L n T need HT.out (by rw [← HX.out]; omega))
            go_wp2
            go_loopw [12, 13] (fun v i ws => ∃ (m : Nat) (z : Int), m ≤ n ∧ i = .int .i64 m ∧ v = .int .i64 z ∧ z = freeTo L m ∧ Below w.heap.size w ws) (fun _ i _ => n - (intOf i).toNat)
            case atStart => exact ⟨0, 0, Nat.zero_le _, rfl, rfl, rfl, HB.out⟩
            case round =>
              obtain ⟨m, z, hm, rfl, rfl, hz, hb⟩ := hrel
              by_cases hlt2 : m < n
              · obtain ⟨b3, o3, e3, q3, q4, d0, d1, d2, d3⟩ := HA.out.at_ hb hlt2
                cases e3
                have hbd := freeTo_bd L m
                rw [← hz] at hbd
                have HZ := Lib.hid hz
                clear hz
                obtain ⟨ye, hy⟩ : ∃ y, y = L m := ⟨_, rfl⟩
                obtain ⟨ys, yu, yz, yf⟩ := ye
                rw [← hy] at d0 d1 d2 d3
                simp only at d0 d1 d2 d3
                have HY := Lib.hid hy
                have Hb := Lib.hid hb
                clear hb hy
                cases hr : rightB ys yu yz
                · go_wp2_with (go_at_call 7; refine (right_is _ _ hr).mono ?_; rintro e w7 ⟨rfl, hb7⟩)
                  go_roundw
                  case rel => exact ⟨m + 1, z, by omega, by go_num, rfl, by rw [freeTo_no (by rw [← HY.out]; exact hr)]; exact HZ.out, below_upto Hb.out hb7 (Nat.le_refl _)⟩
                  case measure => simp [intOf]; omega
                · have hrb2 := right_bd hr
                  cases yf
                  · go_wp2_with (go_at_call 7; refine (right_is _ _ hr).mono ?_; rintro e w7 ⟨rfl, hb7⟩; obtain ⟨hc, hf⟩ := bcell hb7)
                    go_quiet (fail)
                    go_wp2
                    go_roundw
                    case rel => exact ⟨m + 1, _, by omega, by go_num, rfl, by rw [freeTo_yes (by rw [← HY.out]; exact hr) (by rw [← HY.out]), ← HY.out, ← HZ.out], below_drewN (below_upto Hb.out hb7 (Nat.le_refl _)) _⟩
                    case measure => simp [intOf]; omega
                  · go_wp2_with (go_at_call 7; refine (right_is _ _ hr).mono ?_; rintro e w7 ⟨rfl, hb7⟩; obtain ⟨hc, hf⟩ := bcell hb7)
                    go_roundw
                    case rel => exact ⟨m + 1, z, by omega, by go_num, rfl, by rw [freeTo_fix (by rw [← HY.out])]; exact HZ.out, below_upto Hb.out hb7 (Nat.le_refl _)⟩
                    case measure => simp [intOf]; omega
              · have e : m = n := by omega
                have hzx : z = x := by rw [hz, e, HF.out, HX.out]
                subst hzx
                clear hz e
                go_wp2
                go_ret
                exact ⟨ret_bool (by simp), hb⟩
end Go.Proofs.Ytclcilbdopkamaa
