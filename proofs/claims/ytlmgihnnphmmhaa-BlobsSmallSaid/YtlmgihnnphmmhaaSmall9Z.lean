/- BlobsSmall returns true for every input: blobs of equal bytes, however many (of a page's size), take one sector each. No condition. -/
import Derived.Test.YtlmgihnnphmmhaaScZ
import Derived.Test.YtlmgihnnphmmhaaLiftCZ
namespace Go.Proofs.Ytlmgihnnphmmhaa
open Go.ChangeShapes Go.WideShapes Go.ChangeAt Go.RowKit Go.Joins Go.Deep
set_option linter.unusedVariables false
set_option linter.unusedSimpArgs false

theorem small9_walk (W : World) (a0 a1 a2 a3 a4 a5 a6 a7 a8 : Int) {x n : Int} (hx : 0 ≤ x ∧ x ≤ 255) :
    Calls Try.prog 3 #[cfgI a0 a1 a2 a3 a4 a5 a6 a7 a8, .int .u8 x, .int .i64 n] W fun e w' => e = .returned (.bool true) ∧ Below W.heap.size W w' := by
  by_cases hf : FitsP a0 a1 a2 a3 a4 a5 a6 a7 a8
  · obtain ⟨cf, h1, h2, h3, h4⟩ := hf
    rw [h4]
    by_cases hn : 8 ≤ n ∧ n ≤ 4096
    · obtain ⟨k, rfl⟩ := Int.eq_ofNat_of_zero_le (show 0 ≤ n by omega)
      obtain ⟨y, rfl⟩ := Int.eq_ofNat_of_zero_le hx.1
      exact small_yes W h1 h2 h3 (by omega) (by omega)
    · exact small_range W h1 h2 h3 _ (by omega)
  · exact small_no W hf _ _
set_option maxRecDepth 100000 in
theorem small9_lifted (os : Os) (started : os.Started) (H : Type) (enc : TypeId × Value → H) :
    ReturnsInHanded {} Try.checked os 3 .any (Rows.blobsSmallSpec.pre6 enc Try.prog Try.f3 Rows.blobsSmallRow.domain false) (Rows.blobsSmallSpec.post enc Try.prog Try.f3 false true false false) := by
  refine returnsInHanded_of_change (C := Try.checked) own started (by kernel_rfl) Try.func3
    (ChangeSpec.witness6 (enc := enc) (C := Try.checked) false ⟨#[], #[.agg #[.int .i64 0, .int .i64 0, .int .i64 0, .int .i64 0, .int .i64 0, .int .i64 0, .int .i64 0, .int .i64 0, .int .i64 0], .int .u8 0, .int .i64 0], []⟩ 8 (by kernel_rfl) (by kernel_rfl) (by kernel_rfl) (by kernel_rfl)) ?_
  intro W base args ds gs before hval0 hW hcnd _
  have hval : ∀ (j : Nat) t v, Try.f3.params[j]? = some t → args[j]? = some v → Value.okWide Try.prog W .any base t v := hval0
  have hW' := hW
  obtain ⟨p, q, hA0, hV, rfl, hfz, hnd⟩ := hW
  have hA : DataW.TrodAll enc Try.prog W 0 (fun _ => true) true Try.f3.params.toList args.toList ds p := hA0
  rw [Try.params3] at hA hval
  have hAA := hA
  obtain ⟨v0, vs0, d0, ds0, p0, q0, hargs, rfl, rfl, h0, r0⟩ := trodAll_cons hA
  obtain ⟨v1, vs1, d1, ds1, p1, q1, rfl, rfl, rfl, h1, r1⟩ := trodAll_cons r0
  obtain ⟨v2, vs2, d2, ds2, p2, q2, rfl, rfl, rfl, h2, r2⟩ := trodAll_cons r1
  obtain ⟨rfl, rfl, rfl⟩ := trodAll_nil r2
  obtain rfl : args = #[v0, v1, v2] := by cases args; simp_all
  obtain ⟨rfl, rfl⟩ := trodVars_none hV
  obtain ⟨a0, a1, a2, a3, a4, a5, a6, a7, a8, rfl⟩ := open_cfg (hval 0 23 v0 rfl rfl) h0
  obtain ⟨x, rfl, _, _, wf1⟩ := open_int Try.underlying5 (hval 1 5 v1 rfl rfl) h1
  obtain ⟨n, rfl, _, _, wf2⟩ := open_int Try.underlying3 (hval 2 3 v2 rfl rfl) h2
  have hx : 0 ≤ x ∧ x ≤ 255 := by simpa [Lit.wf, IntKind.min, IntKind.max, IntKind.signed, IntKind.bits] using wf1
  refine (small9_walk W a0 a1 a2 a3 a4 a5 a6 a7 a8 hx).mono fun e W' ⟨he, bel⟩ => ?_
  subst he
  exact ⟨_, rfl, _, _, _, [], _, [], hW', trodAll_mk1 (shut_bool Try.underlying4 _), trodAll_below laidOut bel (by kernel_rfl) hAA, rfl, bel.frame _, fun h => by cases h⟩

theorem small9_over : Rows.blobsSmallRow.holds Try.pinned (OpenSpec.ofChange Rows.blobsSmallSpec) :=
  OpenClaim.holds_of_wide 3 Try.f3 rfl rfl rfl rfl rfl rfl rfl ⟨rfl, rfl, rfl, rfl, rfl⟩ rfl rfl rfl rfl rfl (by kernel_rfl) Try.func3 (by kernel_rfl)
    (of_decide_eq_true (by kernel_rfl)) (by unfold Func.isWrapper; first | (rw [if_pos (by decide +kernel)]; kernel_rfl) | (rw [if_neg (by decide +kernel)]; exact ⟨rfl, rfl⟩))
    (fun os started H enc _ => small9_lifted os started H enc)

theorem blobsSmall_proved : Rows.BlobsSmallSaid := small9_over
#print axioms blobsSmall_proved
end Go.Proofs.Ytlmgihnnphmmhaa
