/- RadixPlays returns true for every input whose bulk is at most the given bound: any acts: each answer; what each root tells, behind all; no Set puts more than the levels. -/
import Derived.Test.YtbmlggieifaniaaRd
import Derived.Test.YtbmlggieifaniaaLiftR
import Derived.JoinedCond
namespace Go.Proofs.Ytbmlggieifaniaa
open Go.ChangeShapes Go.WideShapes Go.ChangeAt Go.RowKit Go.Joins Go.Deep
set_option linter.unusedVariables false
set_option linter.unusedSimpArgs false

theorem cellsAct : Try.prog.cellsOf 51 = 4 := by kernel_rfl
section
variable {H : Type} {enc : TypeId × Value → H} {w : World}
/-- A list of acts that came in. -/
theorem open_acs {A : Option Addr} {n c : Nat} {d : DataW H} {p : List MemPlace} (h : DataW.Trod enc Try.prog w 0 (fun _ => true) true 46 (.slice A n c) d p) : n ≤ maxLen ∧ ∃ b, Acs w A n b := by
  obtain ⟨hm, hr⟩ := rows_of Try.underlying46 (by rw [cellsAct]; omega) h
  refine ⟨hm, ?_⟩
  rcases Nat.eq_zero_or_pos n with h0 | hp
  · exact ⟨fun _ => ⟨0, 0, none, 0, 0, [], 0⟩, fun h => by omega⟩
  obtain ⟨bl, o, rfl, hb, hc⟩ := hr hp
  have hall : ∀ k, ∃ l : AArg, k < n → w.cell? ⟨bl, o + k * 4, none⟩ = some (.int .i64 l.op) ∧ w.cell? ⟨bl, o + k * 4 + 1, none⟩ = some (.int .i64 l.key) ∧ w.cell? ⟨bl, o + k * 4 + 2, none⟩ = some l.v ∧ w.cell? ⟨bl, o + k * 4 + 3, none⟩ = some (.int .i64 l.turn) ∧ l.In w := by
    intro k
    by_cases hk : k < n
    · obtain ⟨cs, m, x, hlen, ht, hat⟩ := hc k hk
      rw [cellsAct] at hat
      have g := field_of Try.underlying51 (by kernel_rfl) cellsAct ht
      obtain ⟨v0, y0, m0, e0, t0⟩ := g 0 _ rfl
      obtain ⟨v1, y1, m1, e1, t1⟩ := g 1 _ rfl
      obtain ⟨v2, y2, m2, e2, t2⟩ := g 2 _ rfl
      obtain ⟨v3, y3, m3, e3, t3⟩ := g 3 _ rfl
      obtain ⟨s0, k0, _, hw0⟩ := DataW.trod_int Try.underlying3 t0
      obtain ⟨s1, k1, _, hw1⟩ := DataW.trod_int Try.underlying3 t1
      obtain ⟨s3, k3, _, hw3⟩ := DataW.trod_int Try.underlying3 t3
      simp at k0 k1 k3
      subst k0
      subst k1
      subst k3
      have hs0 : -9223372036854775808 ≤ s0 ∧ s0 ≤ 9223372036854775807 := by simpa [Lit.wf, IntKind.min, IntKind.max, IntKind.signed, IntKind.bits] using hw0
      have hs1 : -9223372036854775808 ≤ s1 ∧ s1 ≤ 9223372036854775807 := by simpa [Lit.wf, IntKind.min, IntKind.max, IntKind.signed, IntKind.bits] using hw1
      have hs3 : -9223372036854775808 ≤ s3 ∧ s3 ≤ 9223372036854775807 := by simpa [Lit.wf, IntKind.min, IntKind.max, IntKind.signed, IntKind.bits] using hw3
      have hform : ∃ A1 n1 c1, v2 = .slice A1 n1 c1 := by
        rcases open_slice1 Try.underlying23 cellsU8 t2 with ⟨h0, _⟩ | ⟨a, len, cap, _, _, _, _, _, hcs, _⟩
        · simp at h0
          exact ⟨_, _, _, h0⟩
        · simp at hcs
          exact ⟨_, _, _, hcs⟩
      obtain ⟨A1, n1, c1, rfl⟩ := hform
      obtain ⟨j1, j2, L, j3⟩ := open_by t2
      exact ⟨⟨s0, s1, A1, n1, c1, L, s3⟩, fun _ => ⟨(hat 0 (by omega)).trans e0, (hat 1 (by omega)).trans e1, (hat 2 (by omega)).trans e2, (hat 3 (by omega)).trans e3, j3, j1, hs0, hs1, hs3⟩⟩
    · exact ⟨⟨0, 0, none, 0, 0, [], 0⟩, fun h => absurd h hk⟩
  exact ⟨fun k => Classical.choose (hall k), fun _ => ⟨bl, o, rfl, hb, fun k hk => Classical.choose_spec (hall k) hk⟩⟩
end
set_option maxRecDepth 100000 in
theorem plays_lifted (os : Os) (started : os.Started) (H : Type) (enc : TypeId × Value → H) (F : Stop.Interp) :
    ReturnsInHanded {} Try.checked os 6 .any ((Rows.OpenSpec.upto Rows.radixPlaysSpec).pre6 enc Try.prog Try.f6 Rows.radixPlaysUptoRow.domain false) (((Rows.OpenSpec.upto Rows.radixPlaysSpec).at F).post enc Try.prog Try.f6 false true false false) := by
  refine returnsInHanded_of_cond (C := Try.checked) (s := Rows.OpenSpec.upto Rows.radixPlaysSpec) (k := Rows.uptoSmall) rfl own started (by kernel_rfl) Try.func6
    (OpenSpec.witness (enc := enc) (C := Try.checked) (s := Rows.OpenSpec.upto Rows.radixPlaysSpec) (k := Rows.uptoSmall) rfl false ⟨#[], #[.slice none 0 0], []⟩ 8 (by kernel_rfl) (by kernel_rfl) (by kernel_rfl)
      (x := ([.nil], [], [])) (by kernel_rfl) rfl (by kernel_rfl)) ?_
  intro W base args ds gs before hval0 hW _ hk _
  have hval : ∀ (j : Nat) t v, Try.f6.params[j]? = some t → args[j]? = some v → Value.okWide Try.prog W .any base t v := hval0
  have hW' := hW
  obtain ⟨p, q, hA0, hV, rfl, hfz, hnd⟩ := hW
  have hA : DataW.TrodAll enc Try.prog W 0 (fun _ => true) true Try.f6.params.toList args.toList ds p := hA0
  rw [Try.params6] at hA hval
  have hAA := hA
  obtain ⟨v0, vs0, d0, ds0, p0, q0, hargs, rfl, rfl, h0, r0⟩ := trodAll_cons hA
  obtain ⟨rfl, rfl, rfl⟩ := trodAll_nil r0
  obtain rfl : args = #[v0] := by cases args; simp_all
  obtain ⟨rfl, rfl⟩ := trodVars_none hV
  obtain ⟨A1, n1, c1, rfl⟩ := okWide_slice Try.underlying46 (hval 0 46 v0 rfl rfl)
  obtain ⟨hm, b, hb⟩ := open_acs h0
  refine (plays_walk W hb (by unfold maxLen at hm; omega)).mono fun e W' ⟨he, bel⟩ => ?_
  subst he
  exact ⟨_, rfl, _, _, _, [], _, [], hW', trodAll_mk1 (shut_bool Try.underlying4 _), trodAll_below laidOut bel (by kernel_rfl) hAA, rfl, bel.frame _, fun h => by cases h⟩

theorem plays_over : Rows.radixPlaysUptoRow.holds Try.pinned (Rows.OpenSpec.upto Rows.radixPlaysSpec) :=
  OpenClaim.holds_of_cond 6 Try.f6 rfl rfl rfl rfl rfl rfl rfl ⟨rfl, rfl, rfl, rfl, rfl⟩ rfl rfl rfl rfl rfl (by kernel_rfl) Try.func6 (by kernel_rfl)
    (of_decide_eq_true (by kernel_rfl)) (by unfold Func.isWrapper; first | (rw [if_pos (by decide +kernel)]; kernel_rfl) | (rw [if_neg (by decide +kernel)]; exact ⟨rfl, rfl⟩))
    (fun os started H enc _ F => plays_lifted os started H enc F)

theorem radixPlays_proved : Rows.RadixPlaysUptoSaid := plays_over
#print axioms radixPlays_proved
end Go.Proofs.Ytbmlggieifaniaa
