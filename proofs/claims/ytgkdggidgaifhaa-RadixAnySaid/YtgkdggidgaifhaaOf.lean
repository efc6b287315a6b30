/- radix: pair. -/
import Derived.Test.YtgkdggidgaifhaaOe
namespace Go.Proofs.Ytgkdggidgaifhaa
open Go.RowKit
set_option linter.unusedVariables false
set_option linter.unusedSimpArgs false

theorem forkR_spec {a b : Nat} (ha : a < 16777216) (hb : b < 16777216) (hne : a ≠ b) (l : Nat) (hl : l ≤ 5) (hf : frontN a l = frontN b l) : digN a (forkR a b l) ≠ digN b (forkR a b l) ∧ frontN a (forkR a b l) = frontN b (forkR a b l) := by
  fun_induction forkR a b l with
  | case1 l h1 ih =>
    refine ih (by omega) ?_
    obtain ⟨h2, h3⟩ := h1
    have e : ∀ k, frontN k (l + 1) = frontN k l * 16 + digN k l := fun k => by
      unfold frontN digN
      have : (16 : Nat) ^ (6 - l) = 16 ^ (5 - l) * 16 := by rw [← Nat.pow_succ]; congr 1; omega
      rw [this, ← Nat.div_div_eq_div_mul, show 6 - (l + 1) = 5 - l by omega]
      have := Nat.div_add_mod (k / 16 ^ (5 - l)) 16
      omega
    rw [e, e, hf, h3]
  | case2 l h1 =>
    refine ⟨fun e => ?_, hf⟩
    have hl5 : l = 5 := by
      rcases Nat.lt_or_ge l 5 with h | h
      · exact absurd ⟨h, e⟩ h1
      · omega
    subst hl5
    unfold digN frontN at *
    simp at e hf
    omega
theorem fork_ne {a b : Nat} (ha : a < 16777216) (hb : b < 16777216) (hne : a ≠ b) : digN a (forkN a b) ≠ digN b (forkN a b) ∧ frontN a (forkN a b) = frontN b (forkN a b) :=
  forkR_spec ha hb hne 0 (by omega) (by unfold frontN; rw [Nat.div_eq_of_lt (by simpa using ha), Nat.div_eq_of_lt (by simpa using hb)])
theorem front_lt {k l : Nat} (hk : k < 16777216) (hl : l ≤ 6) : frontN k l < 16 ^ l := by
  unfold frontN
  rw [Nat.div_lt_iff_lt_mul (Nat.pow_pos (by omega)), ← Nat.pow_add, show l + (6 - l) = 6 by omega]
  simpa using hk
theorem upd_bd {f : Nat → Int × Int} (hf : ∀ i, Bd (f i)) {i : Nat} {a : Int × Int} (ha : Bd a) : ∀ j, Bd (upd f i a j) := fun j => by
  simp only [upd]
  split
  · exact ha
  · exact hf j
theorem upd_len {f : Nat → Bytes} (hf : ∀ i, (f i).length ≤ 256) {i : Nat} {a : Bytes} (ha : a.length ≤ 256) : ∀ j, (upd f i a j).length ≤ 256 := fun j => by
  simp only [upd]
  split
  · exact ha
  · exact hf j
theorem bd0 : Bd (0, 0) := by unfold Bd; simp
theorem pair0_vals_ok {f d1 d2 : Nat} (hf : f < 16 ^ 5) {A B : Bytes} (hA : A.length ≤ 256) (hB : B.length ≤ 256) : ({ pair0 5 f d1 d2 with vals := upd (upd (fun _ => []) d1 A) d2 B } : RN).Ok :=
  ⟨by simp [pair0, rn0], fun _ => hf, fun h => by simp [pair0, rn0] at h, fun i _ => bd0, fun i _ => upd_len (upd_len (fun _ => by simp) hA) hB i, by simp [pair0, rn0]⟩
theorem pair0_kids_ok {l f d1 d2 : Nat} (hl : l ≤ 5) (hf : f < 16 ^ l) {A B : Int × Int} (hA : Bd A) (hB : Bd B) : ({ pair0 l f d1 d2 with kids := upd (upd (fun _ => (0, 0)) d1 A) d2 B } : RN).Ok :=
  ⟨by simp [pair0, rn0]; omega, fun _ => hf, fun h => by simp [pair0, rn0] at h; omega, fun i _ => upd_bd (upd_bd (fun _ => bd0) hA) hB i, fun i _ => by simp [pair0, rn0], by simp [pair0, rn0]⟩
theorem lone_ok {key : Nat} (hk : key < 16777216) {L : Bytes} (hL : L.length ≤ 256) : (loneR key L).Ok :=
  ⟨by simp [loneR, rn0], fun h => by simp [loneR, rn0] at h, fun _ => hk, fun i _ => bd0, fun i _ => by simp [loneR, rn0], hL⟩
theorem two_boxes (w : World) (r : Int × Int) (t t' : TypeId) : Below w.heap.size w ((w.alloc (.cells #[.int .i64 r.1, .int .i64 r.2] t)).alloc (.cells #[.int .i64 0, .int .i64 0] t')) ∧
    BoxA ((w.alloc (.cells #[.int .i64 r.1, .int .i64 r.2] t)).alloc (.cells #[.int .i64 0, .int .i64 0] t')) w.heap.size r ∧ BoxA ((w.alloc (.cells #[.int .i64 r.1, .int .i64 r.2] t)).alloc (.cells #[.int .i64 0, .int .i64 0] t')) (w.heap.size + 1) (0, 0) := by
  refine ⟨((Below.refl _ _).alloc (Nat.le_refl _) _).alloc (by simp) _, (BoxA.new w t r).off (S := fun _ => False) (Off.of_below ((Below.refl _ _).alloc (Nat.le_refl _) _)) id, ?_⟩
  have := BoxA.new (w.alloc (.cells #[.int .i64 r.1, .int .i64 r.2] t)) t' (0, 0)
  rw [World.size_alloc] at this
  exact this
/-- A root is laid into the box of the result. -/
theorem TrIs.ret {σ : Type} {K : SnkF σ} {M : Snk K} {w w' : World} {T : Nat} {O O' : Nat → Prop} {y : (σ × Int) × (Int × Int) × Int} (h : TrIs M w T O O' y.1 w') {g : Nat} {r0 : Int × Int} (hb : BoxA w' g r0) (hg : Out O' T g) (hw : w.heap.size ≤ g) :
    ((w'.setCell ⟨g, 0, none⟩ (.int .i64 y.2.1.1)).setCell ⟨g, 1, none⟩ (.int .i64 y.2.1.2)).cell? ⟨g, 0, none⟩ = some (.int .i64 y.2.1.1) ∧ ((w'.setCell ⟨g, 0, none⟩ (.int .i64 y.2.1.1)).setCell ⟨g, 1, none⟩ (.int .i64 y.2.1.2)).cell? ⟨g, 1, none⟩ = some (.int .i64 y.2.1.2) ∧
    TrPost M w T O y (.returned (.tuple #[.agg #[.int .i64 y.2.1.1, .int .i64 y.2.1.2], .int .i64 y.2.2])) ((w'.setCell ⟨g, 0, none⟩ (.int .i64 y.2.1.1)).setCell ⟨g, 1, none⟩ (.int .i64 y.2.1.2)) := by
  obtain ⟨e1, e2⟩ := hb.set y.2.1
  exact ⟨e1.1, e1.2.1, (h.step e2 fun k e => by cases e; exact ⟨hg, .inl hw⟩).post rfl⟩
theorem TrIs.early {σ : Type} {K : SnkF σ} {M : Snk K} {w w1 w2 : World} {T : Nat} {O O' : Nat → Prop} {st : σ × Int} (h : TrIs M w1 T O O' st w2) (hb : Below w.heap.size w w1) : TrIs M w T O O' st w2 :=
  ⟨h.tr, (Off.of_below hb).late h.off (fun _ _ e => e), fun k e => (h.hO k e).imp id (Nat.le_trans hb.size)⟩
theorem tput_lone {σ : Type} {K : SnkF σ} {M : Snk K} {V : World} {T : Nat} {O : Nat → Prop} {s : σ} {p : Int} (h : TrAt M V T O s p) (hr : K.Rdy s 1) {key : Nat} (hk : key < 16777216) {v : Value} {L : Bytes} (hv : SlB V v L) (hL : L.length ≤ 256) (t : TypeId) :
    Calls Try.prog 54 #[.pointer (some ⟨T, 0, none⟩), .pointer (some ⟨V.heap.size, 0, none⟩)] (V.alloc (.cells (((Try.zeroCells95.setIfInBounds 0 (.int .i64 6)).setIfInBounds 66 (.int .i64 (key : Nat))).setIfInBounds 67 v) t)) (TrPost M V T O (tputF K (s, p) (loneR key L))) := by
  have hal : Below V.heap.size V (V.alloc (.cells (((Try.zeroCells95.setIfInBounds 0 (.int .i64 6)).setIfInBounds 66 (.int .i64 (key : Nat))).setIfInBounds 67 v) t)) := (Below.refl _ _).alloc (Nat.le_refl _) _
  have hn : NdAt (V.alloc (.cells (((Try.zeroCells95.setIfInBounds 0 (.int .i64 6)).setIfInBounds 66 (.int .i64 (key : Nat))).setIfInBounds 67 v) t)) V.heap.size (loneR key L) nilV v := NdAt.of_block (heap_alloc_new V _) (lone_cells key v) (fun i _ => slB_nil _) (hv.up hal)
  refine (tput_any (h.up hal) hr hn (lone_ok hk hL)).mono fun e w' hp => ?_
  obtain ⟨O', he, hti⟩ := hp.is
  exact (hti.early hal).post he
theorem tput_rdy {σ : Type} {K : SnkF σ} (hK : K.Good) {s : σ} {p : Int} {n : Nat} (hr : K.Rdy s (n + 1)) {x : RN} (hx : x.Ok) : K.Rdy (tputF K (s, p) x).1.1 n := hK.putR s _ n hr (nodeB_le hx)
theorem tput_bd {σ : Type} {K : SnkF σ} (hK : K.Good) {s : σ} {p : Int} (hr : K.Rdy s 1) {x : RN} (hx : x.Ok) (h0 : (tputF K (s, p) x).2.2 = 0) : Bd (tputF K (s, p) x).2.1 := hK.putB s _ hr (nodeB_le hx) h0
set_option maxRecDepth 100000 in
set_option maxHeartbeats 4000000 in
theorem pair_any {σ : Type} {K : SnkF σ} {M : Snk K} (hK : K.Good) {w : World} {T : Nat} {O : Nat → Prop} {s : σ} {p : Int} (h : TrAt M w T O s p) (hr : K.Rdy s 2) {r : Int × Int} (hrb : Bd r) {X : Nat} {x : RN} {vv : Nat → Value} {vl : Value} (hx : NdAt w X x vv vl) (hok : x.Ok)
    (hXo : Out O T X) (hvo : ValsP (Out O T) vv vl) {key : Nat} (hk : key < 16777216) {v : Value} {L : Bytes} (hv : SlB w v L) (hL : L.length ≤ 256) (hvo2 : VIn (Out O T) v) (hne : x.some ≠ key) :
    Calls Try.prog 55 #[.pointer (some ⟨T, 0, none⟩), addrV r, .pointer (some ⟨X, 0, none⟩), .int .i64 (key : Nat), v] w (TrPost M w T O (pairF K (s, p) r x key L)) := by
  obtain ⟨Al, nl, cl, rfl, _⟩ := hx.v
  obtain ⟨Av, nv, cv, rfl, _⟩ := hv
  have hv : SlB w (.slice Av nv cv) L := ⟨Av, nv, cv, rfl, by assumption⟩
  have hlt := hok.some_lt
  have HS := fun (w' : World) (hb : Below w.heap.size w w') => Lib.hid (some_any (hx.up hb) hok)
  obtain ⟨sm, hsm⟩ : ∃ sm, x.some = sm := ⟨_, rfl⟩
  rw [hsm] at hlt HS hne
  obtain ⟨lv, hlv⟩ : ∃ lv, forkN sm key = lv := ⟨_, rfl⟩
  have hl5 : lv ≤ 5 := by rw [← hlv]; exact forkN_le _ _
  have HFK : ∀ W : World, Hid (Calls Try.prog 77 #[.int .i64 (sm : Nat), .int .i64 (key : Nat)] W fun e w' => e = .returned (.int .i64 (lv : Nat)) ∧ w' = W) := fun W => by
    have := fork_any W (a := sm) (b := key) (by omega) (by omega)
    rw [hlv] at this
    exact Lib.hid this
  obtain ⟨hdn, hfe⟩ := fork_ne hlt hk hne
  rw [hlv] at hdn hfe
  obtain ⟨d1, hd1⟩ : ∃ d, digN sm lv = d := ⟨_, rfl⟩
  obtain ⟨d2, hd2⟩ : ∃ d, digN key lv = d := ⟨_, rfl⟩
  obtain ⟨f, hf⟩ : ∃ f, frontN key lv = f := ⟨_, rfl⟩
  have g1 : d1 < 16 := by rw [← hd1]; exact digN_lt _ _
  have g2 : d2 < 16 := by rw [← hd2]; exact digN_lt _ _
  have HD1 : ∀ W : World, Hid (Calls Try.prog 39 #[.int .i64 (sm : Nat), .int .i64 (lv : Nat)] W fun e w' => e = .returned (.int .i64 (d1 : Nat)) ∧ w' = W) := fun W => by
    rw [← hd1]; exact Lib.hid (digit_any W (by omega) (by omega))
  have HD2 : ∀ W : World, Hid (Calls Try.prog 39 #[.int .i64 (key : Nat), .int .i64 (lv : Nat)] W fun e w' => e = .returned (.int .i64 (d2 : Nat)) ∧ w' = W) := fun W => by
    rw [← hd2]; exact Lib.hid (digit_any W (by omega) (by omega))
  have HFR : ∀ W : World, Hid (Calls Try.prog 38 #[.int .i64 (key : Nat), .int .i64 (lv : Nat)] W fun e w' => e = .returned (.int .i64 (f : Nat)) ∧ w' = W) := fun W => by
    rw [← hf]; exact Lib.hid (front_any W (by omega) (by omega))
  rw [hd1, hd2] at hdn
  have HPF : Hid (pairF K (s, p) r x key L = if lv = 5 then tputF K (s, p) { pair0 5 f d1 d2 with vals := upd (upd (fun _ => []) d1 x.val) d2 L }
    else match tputF K (s, p) (loneR key L) with
    | (st1, leaf, e) => if e ≠ 0 then (st1, (0, 0), e) else tputF K st1 { pair0 lv f d1 d2 with kids := upd (upd (fun _ => (0, 0)) d1 r) d2 leaf }) := by
    refine Lib.hid ?_
    unfold pairF
    rw [hsm, hlv, hd1, hd2, hf]
    split
    · rename_i h5
      subst h5
      rw [hd1, hd2, hf]
    · rfl
  have hfl : f < 16 ^ lv := by rw [← hf]; exact front_lt hk (by omega)
  have HFL := Lib.hid hfl
  have H := Lib.hid h
  have HX := Lib.hid hx
  have HXO := Lib.hid hXo
  have HVO := Lib.hid hvo
  have HV := Lib.hid hv
  have HV2 := Lib.hid hvo2
  have HOK := Lib.hid hok
  have lT := h.lt
  have lX := hx.lt
  clear h hx hXo hvo hv hvo2 hok hsm hlv hd1 hd2 hf hfe hne hfl
  unfold addrV
  go_enter Try.func55, Try.ntmps55
  go_upto_region 1 with (fail)
  refine wp_forget (fun W => Below w.heap.size w W ∧ BoxA W w.heap.size r ∧ BoxA W (w.heap.size + 1) (0, 0)) (two_boxes w r _ _) ?_
  rintro W0 ⟨hb0, hB6, hB10⟩
  have l6 := hB6.lt
  have l10 := hB10.lt
  have HB0 := Lib.hid hb0
  have HB6 := Lib.hid hB6
  have HB10 := Lib.hid hB10
  clear hb0 hB6 hB10
  go_upto_region 3 with (first | (go_at_call 78; refine (HS _ HB0.out).out.mono ?_; rintro e w1 ⟨rfl, hb1⟩; have HB1 := Lib.hid hb1; clear hb1) | (go_at_call 77; refine (HFK _).out.mono ?_; rintro e w' ⟨rfl, rfl⟩) | (go_at_call 38; refine (HFR _).out.mono ?_; rintro e w' ⟨rfl, rfl⟩))
  have sY := HB1.out.size
  refine wp_forget (fun W => Below W0.heap.size W0 W ∧ NdAt W w'.heap.size { rn0 lv with prefix_ := f } nilV (.slice none 0 0)) ⟨HB1.out.alloc HB1.out.size _, NdAt.of_block (heap_alloc_new w' _) (fork0_cells lv f) (fun i _ => slB_nil _) (slB_nil _)⟩ ?_
  rintro V ⟨hbV, hnV⟩
  obtain ⟨Y, hY⟩ : ∃ Y, Y = w'.heap.size := ⟨_, rfl⟩
  rw [← hY] at hnV sY ⊢
  have HBV := Lib.hid hbV
  have HNV := Lib.hid hnV
  clear hbV hnV hY HB1
  go_upto_region 4 with (first | (go_at_call 78; refine (HS _ (HB0.out.trans (HBV.out.mono HB0.out.size))).out.mono ?_; rintro e w1 ⟨rfl, hb1⟩; have HB1 := Lib.hid hb1; clear hb1) | (go_at_call 39; with_reducible refine (HD1 _).out.mono ?_; rintro e w' ⟨rfl, rfl⟩) | (go_at_call 39; with_reducible refine (HD2 _).out.mono ?_; rintro e w' ⟨rfl, rfl⟩))
  have q1 := (HNV.out.up HB1.out).has g1
  have q2 := (HNV.out.up HB1.out).has g2
  have qf1 := (HNV.out.up HB1.out).free (50 + d1)
  have qf2 := (HNV.out.up HB1.out).free (50 + d2)
  have i1 : (d1 : Int) < 16 := by omega
  have i2 : (d2 : Int) < 16 := by omega
  have x12 : 50 + d1 ≠ 50 + d2 := by omega
  have x21 := x12.symm
  go_region
  go_upto_region 5 with (fail)
  refine wp_forget (fun W => Below W0.heap.size W0 W ∧ NdAt W Y (pair0 lv f d1 d2) nilV (.slice none 0 0)) ⟨?_, ?_⟩ ?_
  · have hb := HBV.out.trans (HB1.out.mono HBV.out.size)
    exact ((hb.setCell (p := ⟨Y, 50 + d1, none⟩) sY _).setCell (p := ⟨Y, 50 + d2, none⟩) sY _).drew
  · exact (((HNV.out.up HB1.out).setHasP (Vb := fun _ => False) (nilV_p _) id g1 true).setHasP (Vb := fun _ => False) (nilV_p _) id g2 true).up (Below.refl _ _).drew
  rintro V4 ⟨hb4, hn4⟩
  have HB4 := Lib.hid hb4
  have HN4 := Lib.hid hn4
  have TV : Hid (TrIs M w T O O (s, p) V4) := Lib.hid (((TrIs.refl H.out).up HB0.out).up (hb4.mono (Nat.le_refl _)))
  have hYo : Out O T Y := H.out.outOf (Nat.le_trans HB0.out.size sY)
  have hBo : Out O T (w.heap.size + 1) := H.out.outOf (by omega)
  have hB10 : BoxA V4 (w.heap.size + 1) (0, 0) := HB10.out.off (S := fun _ => False) (Off.of_below hb4) id
  have HYO := Lib.hid hYo
  have HBO := Lib.hid hBo
  have HB10' := Lib.hid hB10
  have HX4 : Hid (NdAt V4 X x vv (.slice Al nl cl)) := Lib.hid ((HX.out.up HB0.out).up hb4)
  have lX4 := HX4.out.lt
  have nXY : X ≠ Y := by have := HB0.out.size; omega
  have nYX := nXY.symm
  clear hb4 hn4 hYo hBo hB10 q1 q2 qf1 qf2 HB1 HBV HNV HD1 HD2 HFR HFK HS x12 x21
  by_cases h5 : lv = 5
  · have hb5 : ((lv : Int) == 5) = true := by simp; omega
    have hpf := HPF.out
    rw [if_pos h5] at hpf
    have HPF2 := Lib.hid hpf
    clear hpf HPF
    have q0 := HX4.out.val
    have q1 := HN4.out.vals g1
    have q2 := HN4.out.vals g2
    have qf1 := HN4.out.free (34 + d1)
    have qf2 := HN4.out.free (34 + d2)
    have x12 : 34 + d1 ≠ 34 + d2 := by omega
    have x21 := x12.symm
    have H5 := Lib.hid h5
    clear h5
    go_upto_region 6 with (fail)
    go_region
    go_upto_region 7 with (fail)
    refine wp_forget (fun W => Below W0.heap.size W0 W ∧ NdAt W Y { pair0 5 f d1 d2 with vals := upd (upd (fun _ => []) d1 x.val) d2 L } (upd (upd nilV d1 (.slice Al nl cl)) d2 (.slice Av nv cv)) (.slice none 0 0)) ⟨?_, ?_⟩ ?_
    · exact ((HB4.out.setCell (p := ⟨Y, 34 + d1, none⟩) sY _).setCell (p := ⟨Y, 34 + d2, none⟩) sY _).drew
    · have hYw : ¬ Y < w.heap.size := by have := HB0.out.size; omega
      have v1 := HX.out.inl.2
      have v2 := HV.out.inl
      have n4 := HN4.out
      rw [H5.out] at n4
      have n5 := n4.setValsP (Vb := (· < w.heap.size)) (nilV_p _) hYw g1 HX4.out.v v1
      have hV4 : SlB (V4.setCell ⟨Y, 34 + d1, none⟩ (.slice Al nl cl)) (.slice Av nv cv) L := (HV.out.up HB0.out |>.up HB4.out).offP ((Off.refl (· = Y) V4).setCell (p := ⟨Y, 34 + d1, none⟩) rfl _) (v2.mono fun b hb e => hYw (e ▸ hb))
      exact (n5.setValsP (Vb := (· < w.heap.size)) ((nilV_p _).setVals v1) hYw g2 hV4 v2).up (Below.refl _ _).drew
    rintro V5 ⟨hb5', hn5⟩
    have HN5 := Lib.hid hn5
    have TV5 : Hid (TrIs M w T O O (s, p) V5) := Lib.hid (((TrIs.refl H.out).up HB0.out).up hb5')
    have HB105 : Hid (BoxA V5 (w.heap.size + 1) (0, 0)) := Lib.hid (HB10.out.off (S := fun _ => False) (Off.of_below hb5') id)
    have hpu := tput_any TV5.out.tr (hK.mono _ _ _ hr (by omega)) hn5 (pair0_vals_ok (by have := HFL.out; rw [H5.out] at this; exact this) HOK.out.v hL)
    have HPU := Lib.hid hpu
    have HB5 := Lib.hid hb5'
    clear hn5 hpu hb5' q0 q1 q2 qf1 qf2 x12 x21
    go_wp2_with fail
    refine HPU.out.mono ?_
    rintro e V6 hp
    obtain ⟨O', he, hti⟩ := hp.is
    generalize tputF K (s, p) { pair0 5 f d1 d2 with vals := upd (upd (fun _ => []) d1 x.val) d2 L } = y at *
    unfold addrV at he
    subst he
    have HTI := Lib.hid hti
    have HBX := Lib.hid (hti.box HBO.out HB105.out)
    have HBO6 := Lib.hid (hti.out HBO.out HB105.out.lt)
    have u0 := HBX.out.1
    have u1 := HBX.out.2.1
    have u2 := HBX.out.2.2 0
    have u3 := HBX.out.2.2 1
    clear hp hti
    go_wp2
    have hfin := (TV5.out.trans HTI.out).ret HBX.out HBO6.out (by omega)
    rw [HPF2.out]
    refine bodyPost_ret (results_addr rfl _ _ _ _ _ rfl hfin.1 hfin.2.1) rfl ?_
    exact hfin.2.2
  · have hb5 : ((lv : Int) == 5) = false := by simp; omega
    have hpf := HPF.out
    rw [if_neg h5] at hpf
    have HPF2 := Lib.hid hpf
    clear hpf HPF h5
    have HV4 : Hid (SlB V4 (.slice Av nv cv) L) := Lib.hid ((HV.out.up HB0.out).up HB4.out)
    have HBX6 : Hid (BoxA V4 w.heap.size r) := Lib.hid (HB6.out.off (S := fun _ => False) (Off.of_below HB4.out) id)
    have HB6O := Lib.hid (H.out.outOf (g := w.heap.size) (Nat.le_refl _))
    have HPU := Lib.hid (fun t => tput_lone TV.out.tr (hK.mono _ _ _ hr (by omega)) hk HV4.out hL t)
    go_wp2_with fail
    refine (HPU.out _).mono ?_
    rintro e V6 hp
    obtain ⟨O1, he, hti⟩ := hp.is
    have HR1 := Lib.hid (tput_rdy hK (p := p) (n := 1) hr (lone_ok hk hL))
    have HLB := Lib.hid (tput_bd hK (p := p) (hK.mono _ _ _ hr (by omega)) (lone_ok hk hL))
    have hpf := HPF2.out
    generalize tputF K (s, p) (loneR key L) = y at *
    obtain ⟨st1, leaf, er⟩ := y
    simp only at hpf he
    unfold addrV at he
    subst he
    have HTI := Lib.hid hti
    have HB6' := Lib.hid (hti.box HB6O.out HBX6.out)
    have HB1' := Lib.hid (hti.box HBO.out HB10'.out)
    have HO6 := Lib.hid (hti.out HB6O.out HBX6.out.lt)
    have HO10 := Lib.hid (hti.out HBO.out HB10'.out.lt)
    obtain ⟨hn6, hy6, _⟩ := hti.nd HYO.out (nilV_p _) HN4.out
    have HN6 := Lib.hid hn6
    have HY6 := Lib.hid hy6
    have s6 := hti.off.size
    clear hp hti hn6 hy6 HPU
    go_upto_region 9 with (fail)
    refine wp_forget (fun W => Below V6.heap.size V6 W ∧ BoxA W V6.heap.size leaf) ⟨(Below.refl _ _).alloc (Nat.le_refl _) _, BoxA.new _ _ _⟩ ?_
    rintro V7 ⟨hb7, hl7⟩
    have HB7 := Lib.hid hb7
    have HL7 := Lib.hid hl7
    have HN7 := Lib.hid (HN6.out.up hb7)
    have HB67 := Lib.hid (HB6'.out.off (S := fun _ => False) (Off.of_below hb7) id)
    have HB17 := Lib.hid (HB1'.out.off (S := fun _ => False) (Off.of_below hb7) id)
    have TV7 := Lib.hid ((TV.out.trans HTI.out).up hb7)
    have HYs := HN6.out.lt
    have H6s := HB6'.out.lt
    have H1s := HB1'.out.lt
    have u0 := HB17.out.1
    have u1 := HB17.out.2.1
    have u2 := HB17.out.2.2 0
    have u3 := HB17.out.2.2 1
    clear hb7 hl7 HN6 HB6' HB1'
    by_cases he : er = 0
    case neg =>
      rw [if_pos he] at hpf
      have HPF3 := Lib.hid hpf
      clear hpf
      go_wp2
      have hfin := TrIs.ret (y := (st1, (0, 0), er)) TV7.out HB17.out HO10.out (by omega)
      rw [HPF3.out]
      refine bodyPost_ret (results_addr rfl _ _ _ _ _ rfl hfin.1 hfin.2.1) rfl ?_
      exact hfin.2.2
    subst he
    rw [if_neg (by simp)] at hpf
    have HPF3 := Lib.hid hpf
    clear hpf HPF2
    have q0 := HB67.out.1
    have q1 := HB67.out.2.1
    have l0 := HL7.out.1
    have l1 := HL7.out.2.1
    obtain ⟨k0, k1⟩ := HN7.out.kid g1
    obtain ⟨k2, k3⟩ := HN7.out.kid g2
    have f0 := HN7.out.free (2 + d1 * 2)
    have f1 := HN7.out.free (2 + d1 * 2 + 1)
    have f2 := HN7.out.free (2 + d2 * 2)
    have f3 := HN7.out.free (2 + d2 * 2 + 1)
    have a1 : 2 + d1 * 2 ≠ 2 + d2 * 2 := by omega
    have a2 : 2 + d1 * 2 ≠ 2 + d2 * 2 + 1 := by omega
    have a3 : 2 + d1 * 2 + 1 ≠ 2 + d2 * 2 := by omega
    have a4 : 2 + d1 * 2 + 1 ≠ 2 + d2 * 2 + 1 := by omega
    have a5 := a1.symm
    have a6 := a2.symm
    have a7 := a3.symm
    have a8 := a4.symm
    have n1 : w.heap.size ≠ Y := by omega
    have n2 := n1.symm
    have n3 : V6.heap.size ≠ Y := by omega
    have n4 := n3.symm
    clear u0 u1 u2 u3
    go_upto_region 11 with (fail)
    go_region
    go_upto_region 12 with (fail)
    refine wp_forget (fun W => Off (· = Y) V7 W ∧ NdAt W Y { pair0 lv f d1 d2 with kids := upd (upd (fun _ => (0, 0)) d1 r) d2 leaf } nilV (.slice none 0 0)) ⟨?_, ?_⟩ ?_
    · exact (((((Off.refl (· = Y) V7).setCell (p := ⟨Y, 2 + d1 * 2, none⟩) rfl _).setCell (p := ⟨Y, 2 + d1 * 2 + 1, none⟩) rfl _).setCell (p := ⟨Y, 2 + d2 * 2, none⟩) rfl _).setCell (p := ⟨Y, 2 + d2 * 2 + 1, none⟩) rfl _).drew
    · exact ((HN7.out.setKidP (Vb := fun _ => False) (nilV_p _) id g1 r).setKidP (Vb := fun _ => False) (nilV_p _) id g2 leaf).up (Below.refl _ _).drew
    rintro V8 ⟨ho8, hn8⟩
    have TV8 := Lib.hid (TV7.out.step ho8 (fun k e => by cases e; exact ⟨HY6.out, .inl (by have := HB0.out.size; omega)⟩))
    have hb8 := HB17.out.off ho8 (by omega)
    have HB8 := Lib.hid hb8
    have HPU := Lib.hid (tput_any TV8.out.tr HR1.out hn8 (pair0_kids_ok hl5 HFL.out hrb (HLB.out rfl)))
    have HN8 := Lib.hid hn8
    clear ho8 hb8 hn8 q0 q1 l0 l1 k0 k1 k2 k3 f0 f1 f2 f3 a1 a2 a3 a4 a5 a6 a7 a8
    go_wp2_with fail
    refine HPU.out.mono ?_
    rintro e V9 hp
    obtain ⟨O9, he, hti⟩ := hp.is
    have hpf := HPF3.out
    generalize tputF K (st1.1, st1.2) { pair0 lv f d1 d2 with kids := upd (upd (fun _ => (0, 0)) d1 r) d2 leaf } = y at *
    unfold addrV at he
    subst he
    have HPF4 := Lib.hid hpf
    have HTI9 := Lib.hid hti
    have HBX := Lib.hid (hti.box HO10.out HB8.out)
    have HBO9 := Lib.hid (hti.out HO10.out HB8.out.lt)
    have u0 := HBX.out.1
    have u1 := HBX.out.2.1
    have u2 := HBX.out.2.2 0
    have u3 := HBX.out.2.2 1
    clear hp hti hpf
    go_wp2
    have hfin := (TV8.out.trans HTI9.out).ret HBX.out HBO9.out (by omega)
    rw [HPF4.out]
    refine bodyPost_ret (results_addr rfl _ _ _ _ _ rfl hfin.1 hfin.2.1) rfl ?_
    exact hfin.2.2
end Go.Proofs.Ytgkdggidgaifhaa
