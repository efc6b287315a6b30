/- CleanOrder returns true for every three loads: of two right loads one is less, or they are of one segment and as full; less is an order. No condition. -/
import Derived.Test.YtclcilbdopkamaaC
import Derived.Test.YtclcilbdopkamaaLift
namespace Go.Proofs.Ytclcilbdopkamaa
open Go.ChangeShapes Go.WideShapes Go.ChangeAt Go.RowKit Go.Joins
set_option linter.unusedVariables false

theorem right_bd {s u z : Int} (h : rightB s u z = true) : 0 ≤ s ∧ 1 ≤ z ∧ z ≤ 1048576 ∧ 0 ≤ u ∧ u ≤ z := by
  simp [rightB] at h; omega
theorem mul_bd {u z : Int} (h0 : 0 ≤ u) (h1 : u ≤ 1048576) (h2 : 1 ≤ z) (h3 : z ≤ 1048576) : 0 ≤ u * z ∧ u * z ≤ 1099511627776 := by
  refine ⟨Int.mul_nonneg h0 (by omega), ?_⟩
  have a1 : u * z ≤ 1048576 * z := Int.mul_le_mul_of_nonneg_right h1 (by omega)
  omega
theorem wrap_mul {u z : Int} (h0 : 0 ≤ u) (h1 : u ≤ 1048576) (h2 : 1 ≤ z) (h3 : z ≤ 1048576) : wrap64 (u * z) = u * z := by
  have := mul_bd h0 h1 h2 h3
  exact IntWalk.wrap64_in _ ⟨by omega, by omega⟩

theorem less_iff {s1 u1 z1 s2 u2 z2 : Int} (h1 : rightB s1 u1 z1 = true) (h2 : rightB s2 u2 z2 = true) :
    lessB s1 u1 z1 s2 u2 z2 = true ↔ (u1 * z2 < u2 * z1 ∨ (u1 * z2 = u2 * z1 ∧ s1 < s2)) := by
  have := right_bd h1
  have := right_bd h2
  unfold lessB
  rw [wrap_mul (by omega) (by omega) (by omega) (by omega), wrap_mul (by omega) (by omega) (by omega) (by omega)]
  simp

theorem frac_trans {u1 z1 u2 z2 u3 z3 : Int} (p1 : 1 ≤ z1) (p2 : 1 ≤ z2) (p3 : 1 ≤ z3) (h : u1 * z2 ≤ u2 * z1) (h' : u2 * z3 ≤ u3 * z2) :
    u1 * z3 ≤ u3 * z1 ∧ (u1 * z2 < u2 * z1 ∨ u2 * z3 < u3 * z2 → u1 * z3 < u3 * z1) := by
  have a1 : u1 * z2 * z3 ≤ u2 * z1 * z3 := Int.mul_le_mul_of_nonneg_right h (by omega)
  have a2 : u2 * z3 * z1 ≤ u3 * z2 * z1 := Int.mul_le_mul_of_nonneg_right h' (by omega)
  have e1 : u1 * z2 * z3 = (u1 * z3) * z2 := by rw [Int.mul_right_comm]
  have e2 : u2 * z1 * z3 = u2 * z3 * z1 := by rw [Int.mul_right_comm]
  have e3 : u3 * z2 * z1 = (u3 * z1) * z2 := by rw [Int.mul_right_comm]
  rw [e1, e2] at a1
  rw [e3] at a2
  refine ⟨Int.le_of_mul_le_mul_right (Int.le_trans a1 a2) (by omega), fun hs => ?_⟩
  refine Int.lt_of_mul_lt_mul_right (a := z2) ?_ (by omega)
  rcases hs with hs | hs
  · have b1 : u1 * z2 * z3 < u2 * z1 * z3 := Int.mul_lt_mul_of_pos_right hs (by omega)
    rw [e1, e2] at b1
    exact Int.lt_of_lt_of_le b1 a2
  · have b2 : u2 * z3 * z1 < u3 * z2 * z1 := Int.mul_lt_mul_of_pos_right hs (by omega)
    rw [e3] at b2
    exact Int.lt_of_le_of_lt a1 b2

theorem less_trans {s1 u1 z1 s2 u2 z2 s3 u3 z3 : Int} (h1 : rightB s1 u1 z1 = true) (h2 : rightB s2 u2 z2 = true) (h3 : rightB s3 u3 z3 = true)
    (h : lessB s1 u1 z1 s2 u2 z2 = true) (h' : lessB s2 u2 z2 s3 u3 z3 = true) : lessB s1 u1 z1 s3 u3 z3 = true := by
  rw [less_iff h1 h2] at h
  rw [less_iff h2 h3] at h'
  rw [less_iff h1 h3]
  have b1 := right_bd h1
  have b2 := right_bd h2
  have b3 := right_bd h3
  obtain ⟨t1, t2⟩ := frac_trans (u1 := u1) (z1 := z1) (u2 := u2) (z2 := z2) (u3 := u3) (z3 := z3) (by omega) (by omega) (by omega) (by omega) (by omega)
  by_cases e : u1 * z2 < u2 * z1 ∨ u2 * z3 < u3 * z2
  · exact .inl (t2 e)
  · omega

theorem less_self {s1 u1 z1 : Int} : lessB s1 u1 z1 s1 u1 z1 = false := by simp [lessB]

theorem less_facts {s1 u1 z1 s2 u2 z2 : Int} (h : lessB s1 u1 z1 s2 u2 z2 = true) : lessB s2 u2 z2 s1 u1 z1 = false ∧ ((wrap64 (u1 * z2) == wrap64 (u2 * z1)) = false ∨ ((wrap64 (u1 * z2) == wrap64 (u2 * z1)) = true ∧ (s1 == s2) = false)) := by
  unfold lessB at *
  generalize wrap64 (u1 * z2) = X at *
  generalize wrap64 (u2 * z1) = Y at *
  simp at h ⊢
  omega
theorem less_facts' {s1 u1 z1 s2 u2 z2 : Int} (h : lessB s2 u2 z2 s1 u1 z1 = true) : ((wrap64 (u1 * z2) == wrap64 (u2 * z1)) = false ∨ ((wrap64 (u1 * z2) == wrap64 (u2 * z1)) = true ∧ (s1 == s2) = false)) := by
  unfold lessB at *
  generalize wrap64 (u1 * z2) = X at *
  generalize wrap64 (u2 * z1) = Y at *
  simp at h ⊢
  omega
theorem less_none {s1 u1 z1 s2 u2 z2 : Int} (h1 : lessB s1 u1 z1 s2 u2 z2 = false) (h : lessB s2 u2 z2 s1 u1 z1 = false) : ((wrap64 (u1 * z2) == wrap64 (u2 * z1)) = true ∧ (s1 == s2) = true) := by
  unfold lessB at *
  generalize wrap64 (u1 * z2) = X at *
  generalize wrap64 (u2 * z1) = Y at *
  simp at h h1 ⊢
  omega

set_option maxHeartbeats 4000000 in
theorem walk (sa ua za sb ub zb sc uc zc : Int) (fa fb fc : Bool) (w : World) :
    Calls Try.prog 3 #[.agg #[.int .i64 sa, .int .i64 ua, .int .i64 za, .bool fa], .agg #[.int .i64 sb, .int .i64 ub, .int .i64 zb, .bool fb], .agg #[.int .i64 sc, .int .i64 uc, .int .i64 zc, .bool fc]] w fun e w' => e = .returned (.bool true) ∧ Below w.heap.size w w' := by
  cases ra : rightB sa ua za
  · go_enter Try.func3, Try.ntmps3
    go_wp2_with (first | (go_at_call 6; refine (known_any _).mono ?_; rintro e w1 ⟨rfl, hb⟩; have hB := below_step (Below.refl (w.heap.size + 3) _) hb (by simp); clear hb; obtain ⟨hc, hf⟩ := bcells hB) | (go_at_call 7; refine (right_any _ _ _ _ _).mono ?_; rintro e w2 ⟨rfl, hb⟩; have hB' := below_step (by assumption) hb (by simp); clear hb; obtain ⟨hc, hf⟩ := bcells hB') | (go_at_call 8; refine (less_any _ _ _ _ _ _ _ _ _).mono ?_; rintro e w2 ⟨rfl, hb⟩; have hB' := below_step (by assumption) hb (by simp); clear hb; obtain ⟨hc, hf⟩ := bcells hB'))
    go_ret
    exact ⟨rfl, (((Below.refl w.heap.size w).alloc (Nat.le_refl _) _).alloc (by simp) _).alloc (by simp; omega) _ |>.trans ((by assumption : Below (w.heap.size + 3) _ _).mono (by omega))⟩
  cases rb : rightB sb ub zb
  · go_enter Try.func3, Try.ntmps3
    go_wp2_with (first | (go_at_call 6; refine (known_any _).mono ?_; rintro e w1 ⟨rfl, hb⟩; have hB := below_step (Below.refl (w.heap.size + 3) _) hb (by simp); clear hb; obtain ⟨hc, hf⟩ := bcells hB) | (go_at_call 7; refine (right_any _ _ _ _ _).mono ?_; rintro e w2 ⟨rfl, hb⟩; have hB' := below_step (by assumption) hb (by simp); clear hb; obtain ⟨hc, hf⟩ := bcells hB') | (go_at_call 8; refine (less_any _ _ _ _ _ _ _ _ _).mono ?_; rintro e w2 ⟨rfl, hb⟩; have hB' := below_step (by assumption) hb (by simp); clear hb; obtain ⟨hc, hf⟩ := bcells hB'))
    go_ret
    exact ⟨rfl, (((Below.refl w.heap.size w).alloc (Nat.le_refl _) _).alloc (by simp) _).alloc (by simp; omega) _ |>.trans ((by assumption : Below (w.heap.size + 3) _ _).mono (by omega))⟩
  cases rc : rightB sc uc zc
  · go_enter Try.func3, Try.ntmps3
    go_wp2_with (first | (go_at_call 6; refine (known_any _).mono ?_; rintro e w1 ⟨rfl, hb⟩; have hB := below_step (Below.refl (w.heap.size + 3) _) hb (by simp); clear hb; obtain ⟨hc, hf⟩ := bcells hB) | (go_at_call 7; refine (right_any _ _ _ _ _).mono ?_; rintro e w2 ⟨rfl, hb⟩; have hB' := below_step (by assumption) hb (by simp); clear hb; obtain ⟨hc, hf⟩ := bcells hB') | (go_at_call 8; refine (less_any _ _ _ _ _ _ _ _ _).mono ?_; rintro e w2 ⟨rfl, hb⟩; have hB' := below_step (by assumption) hb (by simp); clear hb; obtain ⟨hc, hf⟩ := bcells hB'))
    go_ret
    exact ⟨rfl, (((Below.refl w.heap.size w).alloc (Nat.le_refl _) _).alloc (by simp) _).alloc (by simp; omega) _ |>.trans ((by assumption : Below (w.heap.size + 3) _ _).mono (by omega))⟩
  have laa := less_self (s1 := sa) (u1 := ua) (z1 := za)
  cases lab : lessB sa ua za sb ub zb
  · cases lba : lessB sb ub zb sa ua za
    · obtain ⟨e1, e2⟩ := less_none lab lba
      go_enter Try.func3, Try.ntmps3
      go_wp2_with (first | (go_at_call 6; refine (known_any _).mono ?_; rintro e w1 ⟨rfl, hb⟩; have hB := below_step (Below.refl (w.heap.size + 3) _) hb (by simp); clear hb; obtain ⟨hc, hf⟩ := bcells hB) | (go_at_call 7; refine (right_any _ _ _ _ _).mono ?_; rintro e w2 ⟨rfl, hb⟩; have hB' := below_step (by assumption) hb (by simp); clear hb; obtain ⟨hc, hf⟩ := bcells hB') | (go_at_call 8; refine (less_any _ _ _ _ _ _ _ _ _).mono ?_; rintro e w2 ⟨rfl, hb⟩; have hB' := below_step (by assumption) hb (by simp); clear hb; obtain ⟨hc, hf⟩ := bcells hB'))
      go_ret
      exact ⟨rfl, (((Below.refl w.heap.size w).alloc (Nat.le_refl _) _).alloc (by simp) _).alloc (by simp; omega) _ |>.trans ((by assumption : Below (w.heap.size + 3) _ _).mono (by omega))⟩
    · rcases less_facts' lba with e1 | ⟨e1, e2⟩
      all_goals
        go_enter Try.func3, Try.ntmps3
        go_wp2_with (first | (go_at_call 6; refine (known_any _).mono ?_; rintro e w1 ⟨rfl, hb⟩; have hB := below_step (Below.refl (w.heap.size + 3) _) hb (by simp); clear hb; obtain ⟨hc, hf⟩ := bcells hB) | (go_at_call 7; refine (right_any _ _ _ _ _).mono ?_; rintro e w2 ⟨rfl, hb⟩; have hB' := below_step (by assumption) hb (by simp); clear hb; obtain ⟨hc, hf⟩ := bcells hB') | (go_at_call 8; refine (less_any _ _ _ _ _ _ _ _ _).mono ?_; rintro e w2 ⟨rfl, hb⟩; have hB' := below_step (by assumption) hb (by simp); clear hb; obtain ⟨hc, hf⟩ := bcells hB'))
        go_ret
        exact ⟨rfl, (((Below.refl w.heap.size w).alloc (Nat.le_refl _) _).alloc (by simp) _).alloc (by simp; omega) _ |>.trans ((by assumption : Below (w.heap.size + 3) _ _).mono (by omega))⟩
  · obtain ⟨lba, ee⟩ := less_facts lab
    cases lbc : lessB sb ub zb sc uc zc
    · rcases ee with e1 | ⟨e1, e2⟩
      all_goals
        go_enter Try.func3, Try.ntmps3
        go_wp2_with (first | (go_at_call 6; refine (known_any _).mono ?_; rintro e w1 ⟨rfl, hb⟩; have hB := below_step (Below.refl (w.heap.size + 3) _) hb (by simp); clear hb; obtain ⟨hc, hf⟩ := bcells hB) | (go_at_call 7; refine (right_any _ _ _ _ _).mono ?_; rintro e w2 ⟨rfl, hb⟩; have hB' := below_step (by assumption) hb (by simp); clear hb; obtain ⟨hc, hf⟩ := bcells hB') | (go_at_call 8; refine (less_any _ _ _ _ _ _ _ _ _).mono ?_; rintro e w2 ⟨rfl, hb⟩; have hB' := below_step (by assumption) hb (by simp); clear hb; obtain ⟨hc, hf⟩ := bcells hB'))
        go_ret
        exact ⟨rfl, (((Below.refl w.heap.size w).alloc (Nat.le_refl _) _).alloc (by simp) _).alloc (by simp; omega) _ |>.trans ((by assumption : Below (w.heap.size + 3) _ _).mono (by omega))⟩
    · have lac := less_trans ra rb rc lab lbc
      rcases ee with e1 | ⟨e1, e2⟩
      all_goals
        go_enter Try.func3, Try.ntmps3
        go_wp2_with (first | (go_at_call 6; refine (known_any _).mono ?_; rintro e w1 ⟨rfl, hb⟩; have hB := below_step (Below.refl (w.heap.size + 3) _) hb (by simp); clear hb; obtain ⟨hc, hf⟩ := bcells hB) | (go_at_call 7; refine (right_any _ _ _ _ _).mono ?_; rintro e w2 ⟨rfl, hb⟩; have hB' := below_step (by assumption) hb (by simp); clear hb; obtain ⟨hc, hf⟩ := bcells hB') | (go_at_call 8; refine (less_any _ _ _ _ _ _ _ _ _).mono ?_; rintro e w2 ⟨rfl, hb⟩; have hB' := below_step (by assumption) hb (by simp); clear hb; obtain ⟨hc, hf⟩ := bcells hB'))
        go_ret
        exact ⟨rfl, (((Below.refl w.heap.size w).alloc (Nat.le_refl _) _).alloc (by simp) _).alloc (by simp; omega) _ |>.trans ((by assumption : Below (w.heap.size + 3) _ _).mono (by omega))⟩

theorem cellsLoad : Try.prog.cellsOf 23 = 4 := by kernel_rfl

set_option maxRecDepth 100000 in
theorem lifted (os : Os) (started : os.Started) (H : Type) (enc : TypeId × Value → H) :
    ReturnsInHanded {} Try.checked os 3 .any (Rows.cleanOrderSpec.pre6 enc Try.prog Try.f3 Rows.cleanOrderRow.domain false) (Rows.cleanOrderSpec.post enc Try.prog Try.f3 false true false false) := by
  refine returnsInHanded_of_change (C := Try.checked) own started (by kernel_rfl) Try.func3
    (ChangeSpec.witness6 (enc := enc) (C := Try.checked) false ⟨#[], #[.agg #[.int .i64 0, .int .i64 0, .int .i64 0, .bool false], .agg #[.int .i64 0, .int .i64 0, .int .i64 0, .bool false], .agg #[.int .i64 0, .int .i64 0, .int .i64 0, .bool false]], []⟩ 8 (by kernel_rfl) (by kernel_rfl) (by kernel_rfl) (by kernel_rfl)) ?_
  intro W base args ds gs before hval0 hW hcnd _
  have hval : ∀ (j : Nat) t v, Try.f3.params[j]? = some t → args[j]? = some v → Value.okWide Try.prog W .any base t v := hval0
  have hW' := hW
  obtain ⟨p, q, hA0, hV, rfl, hfz, hnd⟩ := hW
  have hA : DataW.TrodAll enc Try.prog W 0 (fun _ => true) true Try.f3.params.toList args.toList ds p := hA0
  rw [Try.params3] at hA hval
  have hAA := hA
  obtain ⟨v0, vs0, d0, ds0, p0, q0, hargs, rfl, rfl, h0, r0⟩ := trodAll_cons hA
  obtain ⟨v1, vs1, d1, ds1, p1, q1, rfl, rfl, rfl, h1, r1⟩ := trodAll_cons r0
  obtain ⟨v2, vs2, d2, ds2, p2, q2, rfl, rfl, rfl, h2, r2⟩ := trodAll_cons r1
  obtain ⟨rfl, rfl, rfl⟩ := trodAll_nil r2
  obtain rfl : args = #[v0, v1, v2] := by cases args; simp_all
  obtain ⟨rfl, rfl⟩ := trodVars_none hV
  obtain ⟨ca0, ca1, ca2, ca3, ya0, ya1, ya2, ya3, na, rfl, ea, ppa, ha0, ha1, ha2, ha3⟩ := open_agg4 Try.underlying23 (by kernel_rfl) cellsLoad (hval 0 23 v0 rfl rfl) h0
  obtain ⟨sa, ka0, _, _⟩ := DataW.trod_int Try.underlying3 ha0
  obtain ⟨ua, ka1, _, _⟩ := DataW.trod_int Try.underlying3 ha1
  obtain ⟨za, ka2, _, _⟩ := DataW.trod_int Try.underlying3 ha2
  obtain ⟨fa, ka3, _⟩ := DataW.trod_bool Try.underlying4 ha3
  simp at ka0 ka1 ka2 ka3
  subst ka0 ka1 ka2 ka3
  obtain ⟨cb0, cb1, cb2, cb3, yb0, yb1, yb2, yb3, nb, rfl, eb, ppb, hb0, hb1, hb2, hb3⟩ := open_agg4 Try.underlying23 (by kernel_rfl) cellsLoad (hval 1 23 v1 rfl rfl) h1
  obtain ⟨sb, kb0, _, _⟩ := DataW.trod_int Try.underlying3 hb0
  obtain ⟨ub, kb1, _, _⟩ := DataW.trod_int Try.underlying3 hb1
  obtain ⟨zb, kb2, _, _⟩ := DataW.trod_int Try.underlying3 hb2
  obtain ⟨fb, kb3, _⟩ := DataW.trod_bool Try.underlying4 hb3
  simp at kb0 kb1 kb2 kb3
  subst kb0 kb1 kb2 kb3
  obtain ⟨cc0, cc1, cc2, cc3, yc0, yc1, yc2, yc3, nc, rfl, ec, ppc, hc0, hc1, hc2, hc3⟩ := open_agg4 Try.underlying23 (by kernel_rfl) cellsLoad (hval 2 23 v2 rfl rfl) h2
  obtain ⟨sc, kc0, _, _⟩ := DataW.trod_int Try.underlying3 hc0
  obtain ⟨uc, kc1, _, _⟩ := DataW.trod_int Try.underlying3 hc1
  obtain ⟨zc, kc2, _, _⟩ := DataW.trod_int Try.underlying3 hc2
  obtain ⟨fc, kc3, _⟩ := DataW.trod_bool Try.underlying4 hc3
  simp at kc0 kc1 kc2 kc3
  subst kc0 kc1 kc2 kc3
  refine (walk sa ua za sb ub zb sc uc zc fa fb fc W).mono fun e W' ⟨he, bel⟩ => ?_
  subst he
  exact ⟨_, rfl, _, _, _, [], _, [], hW', trodAll_mk1 (shut_bool Try.underlying4 _), trodAll_below laidOut bel (by kernel_rfl) hAA, rfl, bel.frame _, fun h => by cases h⟩

theorem over : Rows.cleanOrderRow.holds Try.pinned (OpenSpec.ofChange Rows.cleanOrderSpec) :=
  OpenClaim.holds_of_wide 3 Try.f3 rfl rfl rfl rfl rfl rfl rfl ⟨rfl, rfl, rfl, rfl, rfl⟩ rfl rfl rfl rfl rfl (by kernel_rfl) Try.func3 (by kernel_rfl)
    (of_decide_eq_true (by kernel_rfl)) (by unfold Func.isWrapper; first | (rw [if_pos (by decide +kernel)]; kernel_rfl) | (rw [if_neg (by decide +kernel)]; exact ⟨rfl, rfl⟩))
    (fun os started H enc _ => lifted os started H enc)

theorem proved : Rows.CleanOrderSaid := over
#print axioms proved
end Go.Proofs.Ytclcilbdopkamaa
