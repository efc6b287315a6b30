/- BlobsSpoil returns true for every input whose bulk is at most the given bound: what is spoilt is used no more, down to nothing; it is told still. -/
import Derived.Test.YtlmgihnnphmmhaaSdZ
import Derived.Test.YtlmgihnnphmmhaaLiftCZ
namespace Go.Proofs.Ytlmgihnnphmmhaa
open Go.ChangeShapes Go.WideShapes Go.ChangeAt Go.RowKit Go.Joins Go.Deep
set_option linter.unusedVariables false
set_option linter.unusedSimpArgs false

theorem spoil9_walk (W : World) (a0 a1 a2 a3 a4 a5 a6 a7 a8 : Int) {A : Option Addr} {n c : Nat} {b : Nat → BArg} (hl : SLs W A n b) (hn : n ≤ 1048576) (hs : lenSum b n ≤ 1099511627776) (turn : Int) (htr : -9223372036854775808 ≤ turn ∧ turn ≤ 9223372036854775807) :
    Calls Try.prog 7 #[cfgI a0 a1 a2 a3 a4 a5 a6 a7 a8, .slice A n c, .int .i64 turn] W fun e w' => e = .returned (.bool true) ∧ Below W.heap.size W w' := by
  by_cases hf : FitsP a0 a1 a2 a3 a4 a5 a6 a7 a8
  · obtain ⟨cf, h1, h2, h3, h4⟩ := hf
    rw [h4]
    exact spoil_yes W h1 h2 h3 turn htr hl hn hs
  · exact spoil_no W hf _ _
set_option maxRecDepth 100000 in
theorem spoil9_lifted (os : Os) (started : os.Started) (H : Type) (enc : TypeId × Value → H) (F : Stop.Interp) :
    ReturnsInHanded {} Try.checked os 7 .any ((Rows.OpenSpec.upto Rows.blobsSpoilSpec).pre6 enc Try.prog Try.f7 Rows.blobsSpoilUptoRow.domain false) (((Rows.OpenSpec.upto Rows.blobsSpoilSpec).at F).post enc Try.prog Try.f7 false true false false) := by
  refine returnsInHanded_of_cond (C := Try.checked) (s := Rows.OpenSpec.upto Rows.blobsSpoilSpec) (k := Rows.uptoSmall) rfl own started (by kernel_rfl) Try.func7
    (OpenSpec.witness (enc := enc) (C := Try.checked) (s := Rows.OpenSpec.upto Rows.blobsSpoilSpec) (k := Rows.uptoSmall) rfl false ⟨#[], #[.agg #[.int .i64 0, .int .i64 0, .int .i64 0, .int .i64 0, .int .i64 0, .int .i64 0, .int .i64 0, .int .i64 0, .int .i64 0], .slice none 0 0, .int .i64 0], []⟩ 8 (by kernel_rfl) (by kernel_rfl) (by kernel_rfl)
      (x := ([.agg [.lit (.int .i64 0), .lit (.int .i64 0), .lit (.int .i64 0), .lit (.int .i64 0), .lit (.int .i64 0), .lit (.int .i64 0), .lit (.int .i64 0), .lit (.int .i64 0), .lit (.int .i64 0)], .nil, .lit (.int .i64 0)], [], [])) (by kernel_rfl) rfl (by kernel_rfl)) ?_
  intro W base args ds gs before hval0 hW _ hk _
  have hval : ∀ (j : Nat) t v, Try.f7.params[j]? = some t → args[j]? = some v → Value.okWide Try.prog W .any base t v := hval0
  have hW' := hW
  obtain ⟨p, q, hA0, hV, rfl, hfz, hnd⟩ := hW
  have hA : DataW.TrodAll enc Try.prog W 0 (fun _ => true) true Try.f7.params.toList args.toList ds p := hA0
  rw [Try.params7] at hA hval
  have hAA := hA
  obtain ⟨v0, vs0, d0, ds0, p0, q0, hargs, rfl, rfl, h0, r0⟩ := trodAll_cons hA
  obtain ⟨v1, vs1, d1, ds1, p1, q1, rfl, rfl, rfl, h1, r1⟩ := trodAll_cons r0
  obtain ⟨v2, vs2, d2, ds2, p2, q2, rfl, rfl, rfl, h2, r2⟩ := trodAll_cons r1
  obtain ⟨rfl, rfl, rfl⟩ := trodAll_nil r2
  obtain rfl : args = #[v0, v1, v2] := by cases args; simp_all
  obtain ⟨rfl, rfl⟩ := trodVars_none hV
  obtain ⟨a0, a1, a2, a3, a4, a5, a6, a7, a8, rfl⟩ := open_cfg (hval 0 23 v0 rfl rfl) h0
  obtain ⟨A1, n1, c1, rfl⟩ := okWide_slice Try.underlying36 (hval 1 36 v1 rfl rfl)
  obtain ⟨tn, rfl, _, _, wf2⟩ := open_int Try.underlying3 (hval 2 3 v2 rfl rfl) h2
  have htr : -9223372036854775808 ≤ tn ∧ tn ≤ 9223372036854775807 := by simpa [Lit.wf, IntKind.min, IntKind.max, IntKind.signed, IntKind.bits] using wf2
  obtain ⟨hm1, hb1, b, hl, hs⟩ := open_bys h1
  have hbk : Rows.uptoBulk d1 ≤ 1048576 := by
    have e1 := bulk_bound hk
    exact Nat.le_trans (bulk_part (by simp)) e1
  refine (spoil9_walk W a0 a1 a2 a3 a4 a5 a6 a7 a8 hl (by omega) (by omega) tn htr).mono fun e W' ⟨he, bel⟩ => ?_
  subst he
  exact ⟨_, rfl, _, _, _, [], _, [], hW', trodAll_mk1 (shut_bool Try.underlying4 _), trodAll_below laidOut bel (by kernel_rfl) hAA, rfl, bel.frame _, fun h => by cases h⟩

theorem spoil9_over : Rows.blobsSpoilUptoRow.holds Try.pinned (Rows.OpenSpec.upto Rows.blobsSpoilSpec) :=
  OpenClaim.holds_of_cond 7 Try.f7 rfl rfl rfl rfl rfl rfl rfl ⟨rfl, rfl, rfl, rfl, rfl⟩ rfl rfl rfl rfl rfl (by kernel_rfl) Try.func7 (by kernel_rfl)
    (of_decide_eq_true (by kernel_rfl)) (by unfold Func.isWrapper; first | (rw [if_pos (by decide +kernel)]; kernel_rfl) | (rw [if_neg (by decide +kernel)]; exact ⟨rfl, rfl⟩))
    (fun os started H enc _ F => spoil9_lifted os started H enc F)

theorem blobsSpoil_proved : Rows.BlobsSpoilUptoSaid := spoil9_over
#print axioms blobsSpoil_proved
end Go.Proofs.Ytlmgihnnphmmhaa
