/- BlobsTaken returns true for every input whose bulk is at most the given bound: segments that were full when the store was made are not written to. -/
import Derived.Test.YtlmgihnnphmmhaaSfZ
import Derived.Test.YtlmgihnnphmmhaaLiftCZ
namespace Go.Proofs.Ytlmgihnnphmmhaa
open Go.ChangeShapes Go.WideShapes Go.ChangeAt Go.RowKit Go.Joins Go.Deep
set_option linter.unusedVariables false
set_option linter.unusedSimpArgs false

set_option maxRecDepth 100000 in
set_option maxHeartbeats 2000000 in
theorem taken_no (w : World) {a0 a1 a2 a3 a4 a5 a6 a7 a8 : Int} (h : ¬ FitsP a0 a1 a2 a3 a4 a5 a6 a7 a8) (u v : Value) :
    Calls Try.prog 6 #[cfgI a0 a1 a2 a3 a4 a5 a6 a7 a8, u, v] w fun e w' => e = .returned (.bool true) ∧ Below w.heap.size w w' := by
  have HK : Hid (∀ w', Calls Try.prog 10 #[] w' fun e w'' => e = .returned (.bool true) ∧ Below w'.heap.size w' w'') := fun w' => known9_any w'
  have HF : Hid (∀ w', Calls Try.prog 11 #[cfgI a0 a1 a2 a3 a4 a5 a6 a7 a8] w' fun e w'' => e = .returned (.bool false) ∧ Below w'.heap.size w' w'') := fun w' => fits_false w' a0 a1 a2 a3 a4 a5 a6 a7 a8 h
  have HMD := Lib.hid (BoxI.made w a0 a1 a2 a3 a4 a5 a6 a7 a8)
  have HB : Hid (Below w.heap.size w (w.alloc (.cells #[.int .i64 a0, .int .i64 a1, .int .i64 a2, .int .i64 a3, .int .i64 a4, .int .i64 a5, .int .i64 a6, .int .i64 a7, .int .i64 a8] 23))) := (Below.refl _ _).alloc (Nat.le_refl _) _
  clear h
  unfold cfgI at *
  go_enter Try.func6, Try.ntmps6
  go_upto_region 1 with (fail)
  refine wp_forget (fun W => BoxI W w.heap.size a0 a1 a2 a3 a4 a5 a6 a7 a8 ∧ Below w.heap.size w W ∧ w.heap.size < W.heap.size) ⟨HMD.out, HB.out, by simp⟩ ?_
  clear HMD HB
  rintro W ⟨⟨q0, q1, q2, q3, q4, q5, q6, q7, q8⟩, hbW, lW⟩
  have HBW := Lib.hid hbW
  clear hbW
  refine wp_upW (W := W) fun g => ?_
  go_wp2_with fail
  refine calls_upW (HK.out _) fun g => ?_
  go_wp2_with fail
  refine calls_upW (HF.out _) fun g => ?_
  have HG : Hid (Below w.heap.size w g.world) := below_upto HBW.out g.h (Nat.le_refl _)
  go_wp2
  go_ret
  exact ⟨rfl, HG.out⟩
theorem cellsBo : Try.prog.cellsOf 4 = 1 := by kernel_rfl
/-- A slice of booleans that came in. -/
theorem open_bos {H : Type} {enc : TypeId × Value → H} {w : World} {A : Option Addr} {n c : Nat} {d : DataW H} {p : List MemPlace} (h : DataW.Trod enc Try.prog w 0 (fun _ => true) true 57 (.slice A n c) d p) :
    n ≤ c ∧ ∃ F, SBl w A n F := by
  obtain ⟨fuel, hf⟩ := h
  rcases open_slice1 Try.underlying57 cellsBo hf with ⟨h0, h1⟩ | ⟨a, len, cap, m, n', V, D, Pl, hcs, _, hl, hm, hmm, hx, hi⟩
  · simp [Value.cells] at h0
    obtain ⟨rfl, rfl, rfl⟩ := h0
    exact ⟨Nat.le_refl _, [], rfl, fun h => by omega⟩
  · simp [Value.cells] at hcs
    obtain ⟨rfl, rfl, rfl⟩ := hcs
    have hlm : n ≤ m := by rw [hmm]; split <;> omega
    have hV : ∀ i, ∃ b : Bool, i < n → V i = .bool b := fun i => by
      by_cases hlt : i < n
      · obtain ⟨a', ha, _⟩ := DataW.trod_bool Try.underlying4 (hi i (by omega)).2
        simp at ha
        exact ⟨a', fun _ => ha⟩
      · exact ⟨false, fun h => absurd h hlt⟩
    have hb := fun i => Classical.choose_spec (hV i)
    refine ⟨hl, (List.range n).map fun i => Classical.choose (hV i), by simp, fun hp => ?_⟩
    have hspot : a.spot = none ∧ a.block < w.heap.size := by
      have h0 := (hi 0 (by omega)).1
      have e1 : a.add 0 = a := by simp [Addr.add]
      rw [e1] at h0
      refine ⟨World.cell?_spot h0, ?_⟩
      rcases Nat.lt_or_ge a.block w.heap.size with h1 | h1
      · exact h1
      · simp [World.cell?, Array.getElem?_eq_none h1] at h0
    obtain ⟨b, o, spot⟩ := a
    obtain ⟨rfl, hbs⟩ := hspot
    refine ⟨b, o, rfl, hbs, fun k hk => ?_⟩
    have h1 := (hi k (by omega)).1
    rw [add_plain, hb k hk] at h1
    rw [h1]
    simp [List.getD_eq_getElem?_getD, hk]
theorem taken9_walk (W : World) (a0 a1 a2 a3 a4 a5 a6 a7 a8 : Int) {Af : Option Addr} {nf cf : Nat} {Fl : List Bool} (hF : SBl W Af nf Fl) (hcf : nf ≤ cf) {A : Option Addr} {n c : Nat} {b : Nat → BArg} (hl : SLs W A n b) (hn : n ≤ 1048576) (hs : lenSum b n ≤ 1099511627776) :
    Calls Try.prog 6 #[cfgI a0 a1 a2 a3 a4 a5 a6 a7 a8, .slice Af nf cf, .slice A n c] W fun e w' => e = .returned (.bool true) ∧ Below W.heap.size W w' := by
  by_cases hf : FitsP a0 a1 a2 a3 a4 a5 a6 a7 a8
  · obtain ⟨cc, h1, h2, h3, h4⟩ := hf
    rw [h4]
    exact taken_yes W h1 h2 h3 hF hcf hl hn hs
  · exact taken_no W hf _ _
set_option maxRecDepth 100000 in
theorem taken9_lifted (os : Os) (started : os.Started) (H : Type) (enc : TypeId × Value → H) (F : Stop.Interp) :
    ReturnsInHanded {} Try.checked os 6 .any ((Rows.OpenSpec.upto Rows.blobsTakenSpec).pre6 enc Try.prog Try.f6 Rows.blobsTakenUptoRow.domain false) (((Rows.OpenSpec.upto Rows.blobsTakenSpec).at F).post enc Try.prog Try.f6 false true false false) := by
  refine returnsInHanded_of_cond (C := Try.checked) (s := Rows.OpenSpec.upto Rows.blobsTakenSpec) (k := Rows.uptoSmall) rfl own started (by kernel_rfl) Try.func6
    (OpenSpec.witness (enc := enc) (C := Try.checked) (s := Rows.OpenSpec.upto Rows.blobsTakenSpec) (k := Rows.uptoSmall) rfl false ⟨#[], #[.agg #[.int .i64 0, .int .i64 0, .int .i64 0, .int .i64 0, .int .i64 0, .int .i64 0, .int .i64 0, .int .i64 0, .int .i64 0], .slice none 0 0, .slice none 0 0], []⟩ 8 (by kernel_rfl) (by kernel_rfl) (by kernel_rfl)
      (x := ([.agg [.lit (.int .i64 0), .lit (.int .i64 0), .lit (.int .i64 0), .lit (.int .i64 0), .lit (.int .i64 0), .lit (.int .i64 0), .lit (.int .i64 0), .lit (.int .i64 0), .lit (.int .i64 0)], .nil, .nil], [], [])) (by kernel_rfl) rfl (by kernel_rfl)) ?_
  intro W base args ds gs before hval0 hW _ hk _
  have hval : ∀ (j : Nat) t v, Try.f6.params[j]? = some t → args[j]? = some v → Value.okWide Try.prog W .any base t v := hval0
  have hW' := hW
  obtain ⟨p, q, hA0, hV, rfl, hfz, hnd⟩ := hW
  have hA : DataW.TrodAll enc Try.prog W 0 (fun _ => true) true Try.f6.params.toList args.toList ds p := hA0
  rw [Try.params6] at hA hval
  have hAA := hA
  obtain ⟨v0, vs0, d0, ds0, p0, q0, hargs, rfl, rfl, h0, r0⟩ := trodAll_cons hA
  obtain ⟨v1, vs1, d1, ds1, p1, q1, rfl, rfl, rfl, h1, r1⟩ := trodAll_cons r0
  obtain ⟨v2, vs2, d2, ds2, p2, q2, rfl, rfl, rfl, h2, r2⟩ := trodAll_cons r1
  obtain ⟨rfl, rfl, rfl⟩ := trodAll_nil r2
  obtain rfl : args = #[v0, v1, v2] := by cases args; simp_all
  obtain ⟨rfl, rfl⟩ := trodVars_none hV
  obtain ⟨a0, a1, a2, a3, a4, a5, a6, a7, a8, rfl⟩ := open_cfg (hval 0 23 v0 rfl rfl) h0
  obtain ⟨A1, n1, c1, rfl⟩ := okWide_slice Try.underlying57 (hval 1 57 v1 rfl rfl)
  obtain ⟨A2, n2, c2, rfl⟩ := okWide_slice Try.underlying36 (hval 2 36 v2 rfl rfl)
  obtain ⟨hcf, Fl, hF⟩ := open_bos h1
  obtain ⟨hm1, hb1, b, hl, hs⟩ := open_bys h2
  have hbk : Rows.uptoBulk d2 ≤ 1048576 := by
    have e1 := bulk_bound hk
    exact Nat.le_trans (bulk_part (by simp)) e1
  refine (taken9_walk W a0 a1 a2 a3 a4 a5 a6 a7 a8 hF hcf hl (by omega) (by omega)).mono fun e W' ⟨he, bel⟩ => ?_
  subst he
  exact ⟨_, rfl, _, _, _, [], _, [], hW', trodAll_mk1 (shut_bool Try.underlying4 _), trodAll_below laidOut bel (by kernel_rfl) hAA, rfl, bel.frame _, fun h => by cases h⟩

theorem taken9_over : Rows.blobsTakenUptoRow.holds Try.pinned (Rows.OpenSpec.upto Rows.blobsTakenSpec) :=
  OpenClaim.holds_of_cond 6 Try.f6 rfl rfl rfl rfl rfl rfl rfl ⟨rfl, rfl, rfl, rfl, rfl⟩ rfl rfl rfl rfl rfl (by kernel_rfl) Try.func6 (by kernel_rfl)
    (of_decide_eq_true (by kernel_rfl)) (by unfold Func.isWrapper; first | (rw [if_pos (by decide +kernel)]; kernel_rfl) | (rw [if_neg (by decide +kernel)]; exact ⟨rfl, rfl⟩))
    (fun os started H enc _ F => taken9_lifted os started H enc F)

theorem blobsTaken_proved : Rows.BlobsTakenUptoSaid := taken9_over
#print axioms blobsTaken_proved
end Go.Proofs.Ytlmgihnnphmmhaa
