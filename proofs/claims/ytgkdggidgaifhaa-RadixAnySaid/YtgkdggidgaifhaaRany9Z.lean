/- RadixAny returns true for every input: where a node is other bytes, or a root leads anywhere, each call ends, with an error or an answer; it never asks the sink without end. No condition. -/
import Derived.Test.YtgkdggidgaifhaaVfZ
import Derived.Test.YtgkdggidgaifhaaLiftRZ
namespace Go.Proofs.Ytgkdggidgaifhaa
open Go.ChangeShapes Go.WideShapes Go.ChangeAt Go.RowKit Go.Joins Go.Deep
set_option linter.unusedVariables false
set_option linter.unusedSimpArgs false

theorem cellsAd : Try.prog.cellsOf 30 = 2 := by kernel_rfl
section
variable {H : Type} {enc : TypeId × Value → H} {w : World}
set_option maxRecDepth 100000 in
theorem open_addr {base : Nat} {v : Value} {d : DataW H} {p : List MemPlace} (hv : Value.okWide Try.prog w .any base 30 v) (h : DataW.Trod enc Try.prog w 0 (fun _ => true) true 30 v d p) :
    ∃ a0 a1 : Int, v = .agg #[.int .i64 a0, .int .i64 a1] := by
  obtain ⟨cs, rfl, hsz⟩ := okWide_struct Try.underlying30 hv
  rw [cellsAd] at hsz
  obtain ⟨m, hm⟩ := h
  have g := field_of Try.underlying30 (by kernel_rfl) cellsAd hm
  have gi : ∀ j, j < 2 → ∃ a : Int, cs[j]? = some (.int .i64 a) := fun j hj => by
    have key : ∀ f, (_ : Array Field)[j]? = some f → f.type = 3 → ∃ a : Int, cs[j]? = some (.int .i64 a) := fun f hf ht => by
      obtain ⟨v, y, m', hc, ht'⟩ := g j f hf
      rw [ht] at ht'
      obtain ⟨a, ha, _⟩ := DataW.trod_int Try.underlying3 ht'
      simp at ha
      subst ha
      exact ⟨a, by simpa [Value.cells] using hc⟩
    match j, hj with
    | 0, _ => exact key _ rfl rfl
    | 1, _ => exact key _ rfl rfl
  obtain ⟨a0, h0⟩ := gi 0 (by omega)
  obtain ⟨a1, h1⟩ := gi 1 (by omega)
  refine ⟨a0, a1, ?_⟩
  refine congrArg Value.agg ?_
  apply Array.ext_getElem?
  intro i
  match i with
  | 0 => exact h0
  | 1 => exact h1
  | i + 2 => rw [Array.getElem?_eq_none (by omega), Array.getElem?_eq_none (by simp)]
end
set_option maxRecDepth 100000 in
theorem any11_lifted (os : Os) (started : os.Started) (H : Type) (enc : TypeId × Value → H) :
    ReturnsInHanded {} Try.checked os 6 .any (Rows.radixAnySpec.pre6 enc Try.prog Try.f6 Rows.radixAnyRow.domain false) (Rows.radixAnySpec.post enc Try.prog Try.f6 false true false false) := by
  refine returnsInHanded_of_change (C := Try.checked) own started (by kernel_rfl) Try.func6
    (ChangeSpec.witness6 (enc := enc) (C := Try.checked) false ⟨#[], #[.slice none 0 0, .int .i64 0, .slice none 0 0, .agg #[.int .i64 0, .int .i64 0], .int .i64 0], []⟩ 8 (by kernel_rfl) (by kernel_rfl) (by kernel_rfl) (by kernel_rfl)) ?_
  intro W base args ds gs before hval0 hW hcnd _
  have hval : ∀ (j : Nat) t v, Try.f6.params[j]? = some t → args[j]? = some v → Value.okWide Try.prog W .any base t v := hval0
  have hW' := hW
  obtain ⟨p, q, hA0, hV, rfl, hfz, hnd⟩ := hW
  have hA : DataW.TrodAll enc Try.prog W 0 (fun _ => true) true Try.f6.params.toList args.toList ds p := hA0
  rw [Try.params6] at hA hval
  have hAA := hA
  obtain ⟨v0, vs0, d0, ds0, p0, q0, hargs, rfl, rfl, h0, r0⟩ := trodAll_cons hA
  obtain ⟨v1, vs1, d1, ds1, p1, q1, rfl, rfl, rfl, h1, r1⟩ := trodAll_cons r0
  obtain ⟨v2, vs2, d2, ds2, p2, q2, rfl, rfl, rfl, h2, r2⟩ := trodAll_cons r1
  obtain ⟨v3, vs3, d3, ds3, p3, q3, rfl, rfl, rfl, h3, r3⟩ := trodAll_cons r2
  obtain ⟨v4, vs4, d4, ds4, p4, q4, rfl, rfl, rfl, h4, r4⟩ := trodAll_cons r3
  obtain ⟨rfl, rfl, rfl⟩ := trodAll_nil r4
  obtain rfl : args = #[v0, v1, v2, v3, v4] := by cases args; simp_all
  obtain ⟨rfl, rfl⟩ := trodVars_none hV
  obtain ⟨A0, n0, c0, rfl⟩ := okWide_slice Try.underlying22 (hval 0 22 v0 rfl rfl)
  obtain ⟨hn, b, hb⟩ := open_prs h0
  obtain ⟨t, rfl, _, _, wf1⟩ := open_int Try.underlying3 (hval 1 3 v1 rfl rfl) h1
  obtain ⟨A2, n2, c2, rfl⟩ := okWide_slice Try.underlying38 (hval 2 38 v2 rfl rfl)
  obtain ⟨m2, hm2⟩ := h2
  obtain ⟨hc2, hn2, L2, hb2⟩ := open_by hm2
  obtain ⟨x0, x1, rfl⟩ := open_addr (hval 3 30 v3 rfl rfl) h3
  obtain ⟨key, rfl, _, _, wf4⟩ := open_int Try.underlying3 (hval 4 3 v4 rfl rfl) h4
  refine (any_walk W hb (by unfold maxLen at hn; omega) t hb2 hc2 (x0, x1) key).mono fun e W' ⟨he, bel⟩ => ?_
  subst he
  exact ⟨_, rfl, _, _, _, [], _, [], hW', trodAll_mk1 (shut_bool Try.underlying4 _), trodAll_below laidOut bel (by kernel_rfl) hAA, rfl, bel.frame _, fun h => by cases h⟩

theorem any11_over : Rows.radixAnyRow.holds Try.pinned (OpenSpec.ofChange Rows.radixAnySpec) :=
  OpenClaim.holds_of_wide 6 Try.f6 rfl rfl rfl rfl rfl rfl rfl ⟨rfl, rfl, rfl, rfl, rfl⟩ rfl rfl rfl rfl rfl (by kernel_rfl) Try.func6 (by kernel_rfl)
    (of_decide_eq_true (by kernel_rfl)) (by unfold Func.isWrapper; first | (rw [if_pos (by decide +kernel)]; kernel_rfl) | (rw [if_neg (by decide +kernel)]; exact ⟨rfl, rfl⟩))
    (fun os started H enc _ => any11_lifted os started H enc)

theorem radixAny_proved : Rows.RadixAnySaid := any11_over
#print axioms radixAny_proved
end Go.Proofs.Ytgkdggidgaifhaa
