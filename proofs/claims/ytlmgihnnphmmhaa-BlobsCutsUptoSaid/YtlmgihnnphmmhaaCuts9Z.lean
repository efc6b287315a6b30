/- BlobsCuts returns true for every input whose bulk is at most the given bound: what was flushed is told behind a cut, whatever was put since, and whichever of its sectors are kept. -/
import Derived.Test.YtlmgihnnphmmhaaVbZ
import Derived.Test.YtlmgihnnphmmhaaLiftCZ
namespace Go.Proofs.Ytlmgihnnphmmhaa
open Go.ChangeShapes Go.WideShapes Go.ChangeAt Go.RowKit Go.Joins Go.Deep
set_option linter.unusedVariables false
set_option linter.unusedSimpArgs false

set_option maxRecDepth 100000 in
set_option maxHeartbeats 2000000 in
theorem cuts_no (w : World) {a0 a1 a2 a3 a4 a5 a6 a7 a8 : Int} (h : ¬ FitsP a0 a1 a2 a3 a4 a5 a6 a7 a8) (u v x y : Value) :
    Calls Try.prog 8 #[cfgI a0 a1 a2 a3 a4 a5 a6 a7 a8, u, v, x, y] w fun e w' => e = .returned (.bool true) ∧ Below w.heap.size w w' := by
  have HK : Hid (∀ w', Calls Try.prog 10 #[] w' fun e w'' => e = .returned (.bool true) ∧ Below w'.heap.size w' w'') := fun w' => known9_any w'
  have HF : Hid (∀ w', Calls Try.prog 11 #[cfgI a0 a1 a2 a3 a4 a5 a6 a7 a8] w' fun e w'' => e = .returned (.bool false) ∧ Below w'.heap.size w' w'') := fun w' => fits_false w' a0 a1 a2 a3 a4 a5 a6 a7 a8 h
  have HMD := Lib.hid (BoxI.made w a0 a1 a2 a3 a4 a5 a6 a7 a8)
  have HB : Hid (Below w.heap.size w (w.alloc (.cells #[.int .i64 a0, .int .i64 a1, .int .i64 a2, .int .i64 a3, .int .i64 a4, .int .i64 a5, .int .i64 a6, .int .i64 a7, .int .i64 a8] 23))) := (Below.refl _ _).alloc (Nat.le_refl _) _
  clear h
  unfold cfgI at *
  go_enter Try.func8, Try.ntmps8
  go_upto_region 1 with (fail)
  refine wp_forget (fun W => BoxI W w.heap.size a0 a1 a2 a3 a4 a5 a6 a7 a8 ∧ Below w.heap.size w W ∧ w.heap.size < W.heap.size) ⟨HMD.out, HB.out, by simp⟩ ?_
  clear HMD HB
  rintro W ⟨⟨q0, q1, q2, q3, q4, q5, q6, q7, q8⟩, hbW, lW⟩
  have HBW := Lib.hid hbW
  clear hbW
  refine wp_upW (W := W) fun g => ?_
  go_wp2_with fail
  refine calls_upW (HK.out _) fun g => ?_
  go_wp2_with fail
  refine calls_upW (HF.out _) fun g => ?_
  have HG : Hid (Below w.heap.size w g.world) := below_upto HBW.out g.h (Nat.le_refl _)
  go_wp2
  go_ret
  exact ⟨rfl, HG.out⟩
theorem cellsBo : Try.prog.cellsOf 4 = 1 := by kernel_rfl
/-- A slice of booleans that came in. -/
theorem open_bos {H : Type} {enc : TypeId × Value → H} {w : World} {A : Option Addr} {n c : Nat} {d : DataW H} {p : List MemPlace} (h : DataW.Trod enc Try.prog w 0 (fun _ => true) true 57 (.slice A n c) d p) :
    n ≤ c ∧ ∃ F, SBl w A n F := by
  obtain ⟨fuel, hf⟩ := h
  rcases open_slice1 Try.underlying57 cellsBo hf with ⟨h0, h1⟩ | ⟨a, len, cap, m, n', V, D, Pl, hcs, _, hl, hm, hmm, hx, hi⟩
  · simp [Value.cells] at h0
    obtain ⟨rfl, rfl, rfl⟩ := h0
    exact ⟨Nat.le_refl _, [], rfl, fun h => by omega⟩
  · simp [Value.cells] at hcs
    obtain ⟨rfl, rfl, rfl⟩ := hcs
    have hlm : n ≤ m := by rw [hmm]; split <;> omega
    have hV : ∀ i, ∃ b : Bool, i < n → V i = .bool b := fun i => by
      by_cases hlt : i < n
      · obtain ⟨a', ha, _⟩ := DataW.trod_bool Try.underlying4 (hi i (by omega)).2
        simp at ha
        exact ⟨a', fun _ => ha⟩
      · exact ⟨false, fun h => absurd h hlt⟩
    have hb := fun i => Classical.choose_spec (hV i)
    refine ⟨hl, (List.range n).map fun i => Classical.choose (hV i), by simp, fun hp => ?_⟩
    have hspot : a.spot = none ∧ a.block < w.heap.size := by
      have h0 := (hi 0 (by omega)).1
      have e1 : a.add 0 = a := by simp [Addr.add]
      rw [e1] at h0
      refine ⟨World.cell?_spot h0, ?_⟩
      rcases Nat.lt_or_ge a.block w.heap.size with h1 | h1
      · exact h1
      · simp [World.cell?, Array.getElem?_eq_none h1] at h0
    obtain ⟨b, o, spot⟩ := a
    obtain ⟨rfl, hbs⟩ := hspot
    refine ⟨b, o, rfl, hbs, fun k hk => ?_⟩
    have h1 := (hi k (by omega)).1
    rw [add_plain, hb k hk] at h1
    rw [h1]
    simp [List.getD_eq_getElem?_getD, hk]
theorem cuts9_walk (W : World) (a0 a1 a2 a3 a4 a5 a6 a7 a8 : Int) {A : Option Addr} {n c : Nat} {b : Nat → BArg} (hl : SLs W A n b) (hn : n ≤ 1048576) (hs : lenSum b n ≤ 1099511627776) {A2 : Option Addr} {n2 c2 : Nat} {b2 : Nat → BArg} (hl2 : SLs W A2 n2 b2) (hn2 : n2 ≤ 1048576) (hs2 : lenSum b2 n2 ≤ 1099511627776) (sl : Bool) {Ak : Option Addr} {nk ck : Nat} {Fl : List Bool} (hk : SBl W Ak nk Fl) :
    Calls Try.prog 8 #[cfgI a0 a1 a2 a3 a4 a5 a6 a7 a8, .slice A n c, .slice A2 n2 c2, .bool sl, .slice Ak nk ck] W fun e w' => e = .returned (.bool true) ∧ Below W.heap.size W w' := by
  by_cases hf : FitsP a0 a1 a2 a3 a4 a5 a6 a7 a8
  · obtain ⟨cc, h1, h2, h3, h4⟩ := hf
    rw [h4]
    exact cuts_yes W h1 h2 h3 hl hn hs hl2 hn2 hs2 sl hk
  · exact cuts_no W hf _ _ _ _
set_option maxRecDepth 100000 in
theorem cuts9_lifted (os : Os) (started : os.Started) (H : Type) (enc : TypeId × Value → H) (F : Stop.Interp) :
    ReturnsInHanded {} Try.checked os 8 .any ((Rows.OpenSpec.upto Rows.blobsCutsSpec).pre6 enc Try.prog Try.f8 Rows.blobsCutsUptoRow.domain false) (((Rows.OpenSpec.upto Rows.blobsCutsSpec).at F).post enc Try.prog Try.f8 false true false false) := by
  refine returnsInHanded_of_cond (C := Try.checked) (s := Rows.OpenSpec.upto Rows.blobsCutsSpec) (k := Rows.uptoSmall) rfl own started (by kernel_rfl) Try.func8
    (OpenSpec.witness (enc := enc) (C := Try.checked) (s := Rows.OpenSpec.upto Rows.blobsCutsSpec) (k := Rows.uptoSmall) rfl false ⟨#[], #[.agg #[.int .i64 0, .int .i64 0, .int .i64 0, .int .i64 0, .int .i64 0, .int .i64 0, .int .i64 0, .int .i64 0, .int .i64 0], .slice none 0 0, .slice none 0 0, .bool false, .slice none 0 0], []⟩ 8 (by kernel_rfl) (by kernel_rfl) (by kernel_rfl)
      (x := ([.agg [.lit (.int .i64 0), .lit (.int .i64 0), .lit (.int .i64 0), .lit (.int .i64 0), .lit (.int .i64 0), .lit (.int .i64 0), .lit (.int .i64 0), .lit (.int .i64 0), .lit (.int .i64 0)], .nil, .nil, .lit (.bool false), .nil], [], [])) (by kernel_rfl) rfl (by kernel_rfl)) ?_
  intro W base args ds gs before hval0 hW _ hk _
  have hval : ∀ (j : Nat) t v, Try.f8.params[j]? = some t → args[j]? = some v → Value.okWide Try.prog W .any base t v := hval0
  have hW' := hW
  obtain ⟨p, q, hA0, hV, rfl, hfz, hnd⟩ := hW
  have hA : DataW.TrodAll enc Try.prog W 0 (fun _ => true) true Try.f8.params.toList args.toList ds p := hA0
  rw [Try.params8] at hA hval
  have hAA := hA
  obtain ⟨v0, vs0, d0, ds0, p0, q0, hargs, rfl, rfl, h0, r0⟩ := trodAll_cons hA
  obtain ⟨v1, vs1, d1, ds1, p1, q1, rfl, rfl, rfl, h1, r1⟩ := trodAll_cons r0
  obtain ⟨v2, vs2, d2, ds2, p2, q2, rfl, rfl, rfl, h2, r2⟩ := trodAll_cons r1
  obtain ⟨v3, vs3, d3, ds3, p3, q3, rfl, rfl, rfl, h3, r3⟩ := trodAll_cons r2
  obtain ⟨v4, vs4, d4, ds4, p4, q4, rfl, rfl, rfl, h4, r4⟩ := trodAll_cons r3
  obtain ⟨rfl, rfl, rfl⟩ := trodAll_nil r4
  obtain rfl : args = #[v0, v1, v2, v3, v4] := by cases args; simp_all
  obtain ⟨rfl, rfl⟩ := trodVars_none hV
  obtain ⟨a0, a1, a2, a3, a4, a5, a6, a7, a8, rfl⟩ := open_cfg (hval 0 23 v0 rfl rfl) h0
  obtain ⟨A1, n1, c1, rfl⟩ := okWide_slice Try.underlying36 (hval 1 36 v1 rfl rfl)
  obtain ⟨A2, n2, c2, rfl⟩ := okWide_slice Try.underlying36 (hval 2 36 v2 rfl rfl)
  obtain ⟨b3, rfl⟩ := okWide_bool Try.underlying4 (hval 3 4 v3 rfl rfl)
  obtain ⟨A4, n4, c4, rfl⟩ := okWide_slice Try.underlying57 (hval 4 57 v4 rfl rfl)
  obtain ⟨hcf, Fl, hF⟩ := open_bos h4
  obtain ⟨hm1, hb1, b, hl, hs⟩ := open_bys h1
  obtain ⟨hm2, hb2, b2, hl2, hs2⟩ := open_bys h2
  have e1 := bulk_bound hk
  have hbk : Rows.uptoBulk d1 ≤ 1048576 := Nat.le_trans (bulk_part (by simp)) e1
  have hbk2 : Rows.uptoBulk d2 ≤ 1048576 := Nat.le_trans (bulk_part (by simp)) e1
  refine (cuts9_walk W a0 a1 a2 a3 a4 a5 a6 a7 a8 hl (by omega) (by omega) hl2 (by omega) (by omega) b3 hF).mono fun e W' ⟨he, bel⟩ => ?_
  subst he
  exact ⟨_, rfl, _, _, _, [], _, [], hW', trodAll_mk1 (shut_bool Try.underlying4 _), trodAll_below laidOut bel (by kernel_rfl) hAA, rfl, bel.frame _, fun h => by cases h⟩

theorem cuts9_over : Rows.blobsCutsUptoRow.holds Try.pinned (Rows.OpenSpec.upto Rows.blobsCutsSpec) :=
  OpenClaim.holds_of_cond 8 Try.f8 rfl rfl rfl rfl rfl rfl rfl ⟨rfl, rfl, rfl, rfl, rfl⟩ rfl rfl rfl rfl rfl (by kernel_rfl) Try.func8 (by kernel_rfl)
    (of_decide_eq_true (by kernel_rfl)) (by unfold Func.isWrapper; first | (rw [if_pos (by decide +kernel)]; kernel_rfl) | (rw [if_neg (by decide +kernel)]; exact ⟨rfl, rfl⟩))
    (fun os started H enc _ F => cuts9_lifted os started H enc F)

theorem blobsCuts_proved : Rows.BlobsCutsUptoSaid := cuts9_over
#print axioms blobsCuts_proved
end Go.Proofs.Ytlmgihnnphmmhaa
