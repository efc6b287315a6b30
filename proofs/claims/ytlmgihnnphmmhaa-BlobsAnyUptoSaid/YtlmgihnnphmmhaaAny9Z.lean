/- BlobsAny returns true for every input whose bulk is at most the given bound: of any bytes on the disk Get of any address ends, with a blob that stands there, or an error; a burst within one sector of a blob makes it ErrCorrupt, or leaves it. -/
import Derived.Test.YtlmgihnnphmmhaaYiZ
import Derived.Test.YtlmgihnnphmmhaaLiftCZ
namespace Go.Proofs.Ytlmgihnnphmmhaa
open Go.ChangeShapes Go.WideShapes Go.ChangeAt Go.RowKit Go.Joins Go.Deep
set_option linter.unusedVariables false
set_option linter.unusedSimpArgs false

set_option maxRecDepth 100000 in
set_option maxHeartbeats 2000000 in
theorem any_no (w : World) {a0 a1 a2 a3 a4 a5 a6 a7 a8 : Int} (h : ¬ FitsP a0 a1 a2 a3 a4 a5 a6 a7 a8) (u v x y z : Value) (s n : Int) :
    Calls Try.prog 9 #[cfgI a0 a1 a2 a3 a4 a5 a6 a7 a8, u, addrV s n, v, x, y, z] w fun e w' => e = .returned (.bool true) ∧ Below w.heap.size w w' := by
  have HK : Hid (∀ w', Calls Try.prog 10 #[] w' fun e w'' => e = .returned (.bool true) ∧ Below w'.heap.size w' w'') := fun w' => known9_any w'
  have HF : Hid (∀ w', Calls Try.prog 11 #[cfgI a0 a1 a2 a3 a4 a5 a6 a7 a8] w' fun e w'' => e = .returned (.bool false) ∧ Below w'.heap.size w' w'') := fun w' => fits_false w' a0 a1 a2 a3 a4 a5 a6 a7 a8 h
  have HMD : Hid (BoxI ((w.alloc (.cells #[.int .i64 a0, .int .i64 a1, .int .i64 a2, .int .i64 a3, .int .i64 a4, .int .i64 a5, .int .i64 a6, .int .i64 a7, .int .i64 a8] 23)).alloc (.cells #[.int .i64 s, .int .i64 n] 30)) w.heap.size a0 a1 a2 a3 a4 a5 a6 a7 a8) := by
    obtain ⟨h0, h1, h2, h3, h4, h5, h6, h7, h8⟩ := BoxI.made w a0 a1 a2 a3 a4 a5 a6 a7 a8
    have hc : ∀ j, ((w.alloc (.cells #[.int .i64 a0, .int .i64 a1, .int .i64 a2, .int .i64 a3, .int .i64 a4, .int .i64 a5, .int .i64 a6, .int .i64 a7, .int .i64 a8] 23)).alloc (.cells #[.int .i64 s, .int .i64 n] 30)).cell? ⟨w.heap.size, j, none⟩ = (w.alloc (.cells #[.int .i64 a0, .int .i64 a1, .int .i64 a2, .int .i64 a3, .int .i64 a4, .int .i64 a5, .int .i64 a6, .int .i64 a7, .int .i64 a8] 23)).cell? ⟨w.heap.size, j, none⟩ := fun j =>
      ((Below.refl _ _).alloc (Nat.le_refl _) _).cell (p := ⟨w.heap.size, j, none⟩) (by simp)
    exact ⟨(hc 0).trans h0, (hc 1).trans h1, (hc 2).trans h2, (hc 3).trans h3, (hc 4).trans h4, (hc 5).trans h5, (hc 6).trans h6, (hc 7).trans h7, (hc 8).trans h8⟩
  have HB := Lib.hid (two_below w (.cells #[.int .i64 a0, .int .i64 a1, .int .i64 a2, .int .i64 a3, .int .i64 a4, .int .i64 a5, .int .i64 a6, .int .i64 a7, .int .i64 a8] 23) (.cells #[.int .i64 s, .int .i64 n] 30))
  clear h
  unfold cfgI at *
  unfold addrV
  go_enter Try.func9, Try.ntmps9
  go_upto_region 1 with (fail)
  refine wp_forget (fun W => BoxI W w.heap.size a0 a1 a2 a3 a4 a5 a6 a7 a8 ∧ Below w.heap.size w W ∧ w.heap.size < W.heap.size) ⟨HMD.out, HB.out, by simp; omega⟩ ?_
  clear HMD HB
  rintro W ⟨⟨q0, q1, q2, q3, q4, q5, q6, q7, q8⟩, hbW, lW⟩
  have HBW := Lib.hid hbW
  clear hbW
  refine wp_upW (W := W) fun g => ?_
  go_wp2_with fail
  refine calls_upW (HK.out _) fun g => ?_
  go_wp2_with fail
  refine calls_upW (HF.out _) fun g => ?_
  have HG : Hid (Below w.heap.size w g.world) := below_upto HBW.out g.h (Nat.le_refl _)
  go_wp2
  go_ret
  exact ⟨rfl, HG.out⟩
theorem cellsAddr : Try.prog.cellsOf 30 = 2 := by kernel_rfl
set_option maxRecDepth 100000 in
/-- A place that came in. -/
theorem open_addr {H : Type} {enc : TypeId × Value → H} {w : World} {base : Nat} {v : Value} {d : DataW H} {p : List MemPlace} (hv : Value.okWide Try.prog w .any base 30 v) (h : DataW.Trod enc Try.prog w 0 (fun _ => true) true 30 v d p) :
    ∃ s n : Int, v = addrV s n ∧ (-9223372036854775808 ≤ s ∧ s ≤ 9223372036854775807) := by
  obtain ⟨cs, rfl, hsz⟩ := okWide_struct Try.underlying30 hv
  rw [cellsAddr] at hsz
  obtain ⟨m, hm⟩ := h
  have g := field_of Try.underlying30 (by kernel_rfl) cellsAddr hm
  have gi : ∀ j, j < 2 → ∃ a : Int, cs[j]? = some (.int .i64 a) ∧ (-9223372036854775808 ≤ a ∧ a ≤ 9223372036854775807) := fun j hj => by
    have key : ∀ f, (_ : Array Field)[j]? = some f → f.type = 3 → ∃ a : Int, cs[j]? = some (.int .i64 a) ∧ (-9223372036854775808 ≤ a ∧ a ≤ 9223372036854775807) := fun f hf ht => by
      obtain ⟨v, y, m', hc, ht'⟩ := g j f hf
      rw [ht] at ht'
      obtain ⟨a, ha, _, hw⟩ := DataW.trod_int Try.underlying3 ht'
      simp at ha
      subst ha
      exact ⟨a, by simpa [Value.cells] using hc, by simpa [Lit.wf, IntKind.min, IntKind.max, IntKind.signed, IntKind.bits] using hw⟩
    match j, hj with
    | 0, _ => exact key _ rfl rfl
    | 1, _ => exact key _ rfl rfl
  obtain ⟨a0, h0, hb⟩ := gi 0 (by omega)
  obtain ⟨a1, h1, _⟩ := gi 1 (by omega)
  refine ⟨a0, a1, ?_, hb⟩
  unfold addrV
  refine congrArg Value.agg ?_
  apply Array.ext_getElem?
  intro i
  match i with
  | 0 => exact h0
  | 1 => exact h1
  | i + 2 =>
    rw [Array.getElem?_eq_none (by omega), Array.getElem?_eq_none (by simp)]
theorem any9_walk (W : World) (a0 a1 a2 a3 a4 a5 a6 a7 a8 : Int) {A : Option Addr} {n c : Nat} {L : Bytes} (hL : SBy W A n L) (hc : n ≤ c) (hn : n ≤ maxLen) {s m : Int} (hs : -9223372036854775808 ≤ s ∧ s ≤ 9223372036854775807) {A2 : Option Addr} {n2 c2 : Nat} {L2 : Bytes} (hL2 : SBy W A2 n2 L2) (hc2 : n2 ≤ c2) (hn2 : n2 ≤ maxLen)
    {se bit pat : Int} (hse : -9223372036854775808 ≤ se ∧ se ≤ 9223372036854775807) (hbit : -9223372036854775808 ≤ bit ∧ bit ≤ 9223372036854775807) (hp : 0 ≤ pat ∧ pat ≤ 4294967295) :
    Calls Try.prog 9 #[cfgI a0 a1 a2 a3 a4 a5 a6 a7 a8, .slice A n c, addrV s m, .slice A2 n2 c2, .int .i64 se, .int .i64 bit, .int .u32 pat] W fun e w' => e = .returned (.bool true) ∧ Below W.heap.size W w' := by
  by_cases hf : FitsP a0 a1 a2 a3 a4 a5 a6 a7 a8
  · obtain ⟨cf, h1, h2, h3, h4⟩ := hf
    obtain ⟨p, rfl⟩ := Int.eq_ofNat_of_zero_le hp.1
    rw [h4]
    exact any_yes W h1 h2 h3 (b := ⟨A, n, c, L⟩) ⟨hL, hc⟩ hn hs (bl := ⟨A2, n2, c2, L2⟩) ⟨hL2, hc2⟩ hn2 hse hbit (by omega)
  · exact any_no W hf _ _ _ _ _ _ _
set_option maxRecDepth 100000 in
theorem any9_lifted (os : Os) (started : os.Started) (H : Type) (enc : TypeId × Value → H) (F : Stop.Interp) :
    ReturnsInHanded {} Try.checked os 9 .any ((Rows.OpenSpec.upto Rows.blobsAnySpec).pre6 enc Try.prog Try.f9 Rows.blobsAnyUptoRow.domain false) (((Rows.OpenSpec.upto Rows.blobsAnySpec).at F).post enc Try.prog Try.f9 false true false false) := by
  refine returnsInHanded_of_cond (C := Try.checked) (s := Rows.OpenSpec.upto Rows.blobsAnySpec) (k := Rows.uptoSmall) rfl own started (by kernel_rfl) Try.func9
    (OpenSpec.witness (enc := enc) (C := Try.checked) (s := Rows.OpenSpec.upto Rows.blobsAnySpec) (k := Rows.uptoSmall) rfl false ⟨#[], #[.agg #[.int .i64 0, .int .i64 0, .int .i64 0, .int .i64 0, .int .i64 0, .int .i64 0, .int .i64 0, .int .i64 0, .int .i64 0], .slice none 0 0, .agg #[.int .i64 0, .int .i64 0], .slice none 0 0, .int .i64 0, .int .i64 0, .int .u32 0], []⟩ 8 (by kernel_rfl) (by kernel_rfl) (by kernel_rfl)
      (x := ([.agg [.lit (.int .i64 0), .lit (.int .i64 0), .lit (.int .i64 0), .lit (.int .i64 0), .lit (.int .i64 0), .lit (.int .i64 0), .lit (.int .i64 0), .lit (.int .i64 0), .lit (.int .i64 0)], .nil, .agg [.lit (.int .i64 0), .lit (.int .i64 0)], .nil, .lit (.int .i64 0), .lit (.int .i64 0), .lit (.int .u32 0)], [], [])) (by kernel_rfl) rfl (by kernel_rfl)) ?_
  intro W base args ds gs before hval0 hW _ hk _
  have hval : ∀ (j : Nat) t v, Try.f9.params[j]? = some t → args[j]? = some v → Value.okWide Try.prog W .any base t v := hval0
  have hW' := hW
  obtain ⟨p, q, hA0, hV, rfl, hfz, hnd⟩ := hW
  have hA : DataW.TrodAll enc Try.prog W 0 (fun _ => true) true Try.f9.params.toList args.toList ds p := hA0
  rw [Try.params9] at hA hval
  have hAA := hA
  obtain ⟨v0, vs0, d0, ds0, p0, q0, hargs, rfl, rfl, h0, r0⟩ := trodAll_cons hA
  obtain ⟨v1, vs1, d1, ds1, p1, q1, rfl, rfl, rfl, h1, r1⟩ := trodAll_cons r0
  obtain ⟨v2, vs2, d2, ds2, p2, q2, rfl, rfl, rfl, h2, r2⟩ := trodAll_cons r1
  obtain ⟨v3, vs3, d3, ds3, p3, q3, rfl, rfl, rfl, h3, r3⟩ := trodAll_cons r2
  obtain ⟨v4, vs4, d4, ds4, p4, q4, rfl, rfl, rfl, h4, r4⟩ := trodAll_cons r3
  obtain ⟨v5, vs5, d5, ds5, p5, q5, rfl, rfl, rfl, h5, r5⟩ := trodAll_cons r4
  obtain ⟨v6, vs6, d6, ds6, p6, q6, rfl, rfl, rfl, h6, r6⟩ := trodAll_cons r5
  obtain ⟨rfl, rfl, rfl⟩ := trodAll_nil r6
  obtain rfl : args = #[v0, v1, v2, v3, v4, v5, v6] := by cases args; simp_all
  obtain ⟨rfl, rfl⟩ := trodVars_none hV
  obtain ⟨a0, a1, a2, a3, a4, a5, a6, a7, a8, rfl⟩ := open_cfg (hval 0 23 v0 rfl rfl) h0
  obtain ⟨A1, n1, c1, rfl⟩ := okWide_slice Try.underlying28 (hval 1 28 v1 rfl rfl)
  obtain ⟨s, m, rfl, hs⟩ := open_addr (hval 2 30 v2 rfl rfl) h2
  obtain ⟨A3, n3, c3, rfl⟩ := okWide_slice Try.underlying28 (hval 3 28 v3 rfl rfl)
  obtain ⟨fuel1, hf1⟩ := h1
  obtain ⟨hc1, hn1, _, L1, hL1⟩ := open_by hf1
  obtain ⟨fuel3, hf3⟩ := h3
  obtain ⟨hc3, hn3, _, L3, hL3⟩ := open_by hf3
  obtain ⟨se, rfl, _, _, wf4⟩ := open_int Try.underlying3 (hval 4 3 v4 rfl rfl) h4
  obtain ⟨bit, rfl, _, _, wf5⟩ := open_int Try.underlying3 (hval 5 3 v5 rfl rfl) h5
  obtain ⟨pat, rfl, _, _, wf6⟩ := open_int Try.underlying76 (hval 6 76 v6 rfl rfl) h6
  have hse : -9223372036854775808 ≤ se ∧ se ≤ 9223372036854775807 := by simpa [Lit.wf, IntKind.min, IntKind.max, IntKind.signed, IntKind.bits] using wf4
  have hbit : -9223372036854775808 ≤ bit ∧ bit ≤ 9223372036854775807 := by simpa [Lit.wf, IntKind.min, IntKind.max, IntKind.signed, IntKind.bits] using wf5
  have hpat : 0 ≤ pat ∧ pat ≤ 4294967295 := by simpa [Lit.wf, IntKind.min, IntKind.max, IntKind.signed, IntKind.bits] using wf6
  refine (any9_walk W a0 a1 a2 a3 a4 a5 a6 a7 a8 hL1 hc1 hn1 hs hL3 hc3 hn3 hse hbit hpat).mono fun e W' ⟨he, bel⟩ => ?_
  subst he
  exact ⟨_, rfl, _, _, _, [], _, [], hW', trodAll_mk1 (shut_bool Try.underlying4 _), trodAll_below laidOut bel (by kernel_rfl) hAA, rfl, bel.frame _, fun h => by cases h⟩

theorem any9_over : Rows.blobsAnyUptoRow.holds Try.pinned (Rows.OpenSpec.upto Rows.blobsAnySpec) :=
  OpenClaim.holds_of_cond 9 Try.f9 rfl rfl rfl rfl rfl rfl rfl ⟨rfl, rfl, rfl, rfl, rfl⟩ rfl rfl rfl rfl rfl (by kernel_rfl) Try.func9 (by kernel_rfl)
    (of_decide_eq_true (by kernel_rfl)) (by unfold Func.isWrapper; first | (rw [if_pos (by decide +kernel)]; kernel_rfl) | (rw [if_neg (by decide +kernel)]; exact ⟨rfl, rfl⟩))
    (fun os started H enc _ F => any9_lifted os started H enc F)

theorem blobsAny_proved : Rows.BlobsAnyUptoSaid := any9_over
#print axioms blobsAny_proved
end Go.Proofs.Ytlmgihnnphmmhaa
