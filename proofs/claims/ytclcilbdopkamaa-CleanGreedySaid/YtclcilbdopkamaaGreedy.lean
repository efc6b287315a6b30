/- CleanGreedy returns true for every list of loads and every two numbers: a plan frees what is needed, if that can be freed; none of it is superfluous at its end; and a greater need begins with it. No condition. -/
import Derived.Test.YtclcilbdopkamaaGreedyWalk
import Derived.Test.YtclcilbdopkamaaLift
namespace Go.Proofs.Ytclcilbdopkamaa
open Go.ChangeShapes Go.WideShapes Go.ChangeAt Go.RowKit Go.Joins Go.Deep
set_option linter.unusedVariables false
set_option linter.unusedSimpArgs false

theorem cellsLoad : Try.prog.cellsOf 23 = 4 := by kernel_rfl

theorem SL_of {H : Type} {enc : TypeId × Value → H} {w : World} {A : Option Addr} {n c : Nat} {d : DataW H} {p : List MemPlace} (h : DataW.Trod enc Try.prog w 0 (fun _ => true) true 28 (.slice A n c) d p) : n ≤ maxLen ∧ ∃ L, SL w A n L := by
  obtain ⟨hm, hr⟩ := rows_of Try.underlying28 (by rw [cellsLoad]; omega) h
  refine ⟨hm, ?_⟩
  rcases Nat.eq_zero_or_pos n with h0 | hp
  · exact ⟨fun _ => ⟨0, 0, 0, false⟩, fun h => by omega⟩
  obtain ⟨b, o, rfl, hb, hc⟩ := hr hp
  have hall : ∀ k, ∃ l : Ld, k < n → w.cell? ⟨b, o + k * 4, none⟩ = some (.int .i64 l.s) ∧ w.cell? ⟨b, o + k * 4 + 1, none⟩ = some (.int .i64 l.u) ∧ w.cell? ⟨b, o + k * 4 + 2, none⟩ = some (.int .i64 l.z) ∧ w.cell? ⟨b, o + k * 4 + 3, none⟩ = some (.bool l.f) := by
    intro k
    by_cases hk : k < n
    · obtain ⟨cs, m, x, hlen, ht, hat⟩ := hc k hk
      rw [cellsLoad] at hat
      have g := field_of Try.underlying23 (by kernel_rfl) cellsLoad ht
      obtain ⟨v0, y0, m0, e0, t0⟩ := g 0 _ rfl
      obtain ⟨v1, y1, m1, e1, t1⟩ := g 1 _ rfl
      obtain ⟨v2, y2, m2, e2, t2⟩ := g 2 _ rfl
      obtain ⟨v3, y3, m3, e3, t3⟩ := g 3 _ rfl
      obtain ⟨s, k0, _, _⟩ := DataW.trod_int Try.underlying3 t0
      obtain ⟨u, k1, _, _⟩ := DataW.trod_int Try.underlying3 t1
      obtain ⟨z, k2, _, _⟩ := DataW.trod_int Try.underlying3 t2
      obtain ⟨f, k3, _⟩ := DataW.trod_bool Try.underlying4 t3
      simp at k0 k1 k2 k3
      subst k0 k1 k2 k3
      exact ⟨⟨s, u, z, f⟩, fun _ => ⟨(hat 0 (by omega)).trans e0, (hat 1 (by omega)).trans e1, (hat 2 (by omega)).trans e2, (hat 3 (by omega)).trans e3⟩⟩
    · exact ⟨⟨0, 0, 0, false⟩, fun h => absurd h hk⟩
  exact ⟨fun k => Classical.choose (hall k), fun _ => ⟨b, o, rfl, hb, fun k hk => Classical.choose_spec (hall k) hk⟩⟩

set_option maxRecDepth 100000 in
theorem lifted (os : Os) (started : os.Started) (H : Type) (enc : TypeId × Value → H) :
    ReturnsInHanded {} Try.checked os 4 .any (Rows.cleanGreedySpec.pre6 enc Try.prog Try.f4 Rows.cleanGreedyRow.domain false) (Rows.cleanGreedySpec.post enc Try.prog Try.f4 false true false false) := by
  refine returnsInHanded_of_change (C := Try.checked) own started (by kernel_rfl) Try.func4
    (ChangeSpec.witness6 (enc := enc) (C := Try.checked) false ⟨#[], #[.slice none 0 0, .int .i64 0, .int .i64 0], []⟩ 8 (by kernel_rfl) (by kernel_rfl) (by kernel_rfl) (by kernel_rfl)) ?_
  intro W base args ds gs before hval0 hW hcnd _
  have hval : ∀ (j : Nat) t v, Try.f4.params[j]? = some t → args[j]? = some v → Value.okWide Try.prog W .any base t v := hval0
  have hW' := hW
  obtain ⟨p, q, hA0, hV, rfl, hfz, hnd⟩ := hW
  have hA : DataW.TrodAll enc Try.prog W 0 (fun _ => true) true Try.f4.params.toList args.toList ds p := hA0
  rw [Try.params4] at hA hval
  have hAA := hA
  obtain ⟨v0, vs0, d0, ds0, p0, q0, hargs, rfl, rfl, h0, r0⟩ := trodAll_cons hA
  obtain ⟨v1, vs1, d1, ds1, p1, q1, rfl, rfl, rfl, h1, r1⟩ := trodAll_cons r0
  obtain ⟨v2, vs2, d2, ds2, p2, q2, rfl, rfl, rfl, h2, r2⟩ := trodAll_cons r1
  obtain ⟨rfl, rfl, rfl⟩ := trodAll_nil r2
  obtain rfl : args = #[v0, v1, v2] := by cases args; simp_all
  obtain ⟨rfl, rfl⟩ := trodVars_none hV
  obtain ⟨A, n, c, rfl⟩ := okWide_slice Try.underlying28 (hval 0 28 v0 rfl rfl)
  obtain ⟨hn, L, hL⟩ := SL_of h0
  obtain ⟨need, rfl, _, _, _⟩ := open_int Try.underlying3 (hval 1 3 v1 rfl rfl) h1
  obtain ⟨more, rfl, _, _, _⟩ := open_int Try.underlying3 (hval 2 3 v2 rfl rfl) h2
  refine (greedy_walk n c A need more L W hn hL).mono fun e W' ⟨he, bel⟩ => ?_
  subst he
  exact ⟨_, rfl, _, _, _, [], _, [], hW', trodAll_mk1 (shut_bool Try.underlying4 _), trodAll_below laidOut bel (by kernel_rfl) hAA, rfl, bel.frame _, fun h => by cases h⟩

theorem over : Rows.cleanGreedyRow.holds Try.pinned (OpenSpec.ofChange Rows.cleanGreedySpec) :=
  OpenClaim.holds_of_wide 4 Try.f4 rfl rfl rfl rfl rfl rfl rfl ⟨rfl, rfl, rfl, rfl, rfl⟩ rfl rfl rfl rfl rfl (by kernel_rfl) Try.func4 (by kernel_rfl)
    (of_decide_eq_true (by kernel_rfl)) (by unfold Func.isWrapper; first | (rw [if_pos (by decide +kernel)]; kernel_rfl) | (rw [if_neg (by decide +kernel)]; exact ⟨rfl, rfl⟩))
    (fun os started H enc _ => lifted os started H enc)

theorem greedy_proved : Rows.CleanGreedySaid := over
#print axioms greedy_proved
end Go.Proofs.Ytclcilbdopkamaa
