/- radix: the tree's put. -/
import Derived.Test.YtgkdggidgaifhaaOa
import Derived.Test.YtgkdggidgaifhaaNg
namespace Go.Proofs.Ytgkdggidgaifhaa
open Go.RowKit
set_option linter.unusedVariables false
set_option linter.unusedSimpArgs false

/-- A counter that goes on. -/
def inc64 (p : Int) : Int := wrap64 (p + 1)
def tputF {σ : Type} (K : SnkF σ) (st : σ × Int) (x : RN) : (σ × Int) × (Int × Int) × Int :=
  (((K.put st.1 (nodeB x)).1, if (K.put st.1 (nodeB x)).2.2 = 0 then inc64 st.2 else st.2), (K.put st.1 (nodeB x)).2.1, (K.put st.1 (nodeB x)).2.2)
/-- The blocks of a tree and its sink. -/
def OT (O : Nat → Prop) (T : Nat) : Nat → Prop := fun k => O k ∨ k = T
/-- The tree has answered with a root: y is what it plainly answers. -/
def TrPost {σ : Type} {K : SnkF σ} (M : Snk K) (w : World) (T : Nat) (O : Nat → Prop) (y : (σ × Int) × (Int × Int) × Int) (e : Ending) (w' : World) : Prop :=
  ∃ O' : Nat → Prop, e = .returned (.tuple #[addrV y.2.1, .int .i64 y.2.2]) ∧ TrAt M w' T O' y.1.1 y.1.2 ∧ Off (OT O T) w w' ∧ ∀ k, O' k → O k ∨ w.heap.size ≤ k
theorem FrB.slA {w0 w : World} {v : Value} {L : Bytes} (h : FrB w0 w v L) : SlA w v L ∧ ∀ b o n c, v = .slice (some ⟨b, o, none⟩) n c → w0.heap.size ≤ b := h.own.slA
theorem TrAt.setPu {σ : Type} {K : SnkF σ} {M : Snk K} {w : World} {T : Nat} {O : Nat → Prop} {s : σ} {p : Int} (h : TrAt M w T O s p) (p' : Int) : TrAt M (w.setCell ⟨T, 1, none⟩ (.int .i64 p')) T O s p' := by
  have ho : Off (· = T) w (w.setCell ⟨T, 1, none⟩ (.int .i64 p')) := (Off.refl (· = T) w).setCell (p := ⟨T, 1, none⟩) rfl _
  exact ⟨M.off h.at_ ho (fun k e => e ▸ h.ne), h.ne, (World.cell?_setCell_other _ _ _ _ (fun e => by injection e with _ e2; omega)).trans h.sk, World.cell?_setCell_same _ _ _ h.pu, (World.frozen?_setCell _ _ _ _).trans h.fr⟩
/-- A box of two zeros. -/
def Box0 (w : World) (g : Nat) : Prop := (w.cell? ⟨g, 0, none⟩ = some (.int .i64 0) ∧ w.cell? ⟨g, 1, none⟩ = some (.int .i64 0)) ∧ ∀ k, w.frozen? ⟨g, k, none⟩ = false
theorem Box0.new (w : World) (t : TypeId) : Box0 (w.alloc (.cells #[.int .i64 0, .int .i64 0] t)) w.heap.size := by
  refine ⟨⟨?_, ?_⟩, fun k => ?_⟩
  · rw [cell_of_row _ _ _ _ _ _ (heap_alloc_new w _)]; rfl
  · rw [cell_of_row _ _ _ _ _ _ (heap_alloc_new w _)]; rfl
  · unfold World.frozen?
    rw [heap_alloc_new]
    simp
theorem Box0.off {S : Nat → Prop} {w w' : World} {g : Nat} (h : Box0 w g) (ho : Off S w w') (hs : ¬ S g) : Box0 w' g := by
  have hlt := lt_of_cell h.1.1
  exact ⟨⟨(ho.cell (p := ⟨g, 0, none⟩) hlt hs).trans h.1.1, (ho.cell (p := ⟨g, 1, none⟩) hlt hs).trans h.1.2⟩, fun k => (ho.frozen (p := ⟨g, k, none⟩) hlt hs).trans (h.2 k)⟩
theorem Box0.new_up {w w' : World} {t : TypeId} (h : Below (w.alloc (.cells #[.int .i64 0, .int .i64 0] t)).drew.heap.size (w.alloc (.cells #[.int .i64 0, .int .i64 0] t)).drew w') : Box0 w' w.heap.size :=
  (Box0.new w t).off (S := fun _ => False) ((Off.refl _ _).drew.step h) id
theorem Box0.new_off {O : Nat → Prop} {w w' : World} {t : TypeId} (h : Off O (w.alloc (.cells #[.int .i64 0, .int .i64 0] t)) w') (hs : ¬ O w.heap.size) : Box0 w' w.heap.size := (Box0.new w t).off h hs
/-- Behind the sink's Put. -/
structure PuMid {σ : Type} {K : SnkF σ} (M : Snk K) (w V : World) (T : Nat) (O O' : Nat → Prop) (s : σ) (p : Int) (B g : Nat) (a : Int × Int) : Prop where
  tr : TrAt M V T O' s p
  off : Off O w V
  hO : ∀ k, O' k → O k ∨ w.heap.size ≤ k
  nB : ¬ O' B
  bB : Box0 V B
  cg : V.cell? ⟨g, 0, none⟩ = some (.int .i64 a.1) ∧ V.cell? ⟨g, 1, none⟩ = some (.int .i64 a.2)
  ne : B ≠ g ∧ T ≠ B ∧ T ≠ g
theorem PuMid.of {σ : Type} {K : SnkF σ} {M : Snk K} {w W0 wc wd V : World} {T : Nat} {O O' : Nat → Prop} {s0 s : σ} {p : Int} {g : Nat} {a : Int × Int} (h : TrAt M w T O s0 p) (hb : Below w.heap.size w W0) (h0 : w.heap.size < W0.heap.size)
    (c0 : Box0 W0 w.heap.size) (hc : Below W0.heap.size W0 wc)
    (hA : M.At wd O' s) (hof : Off O wc wd) (hO' : ∀ k, O' k → O k ∨ wc.heap.size ≤ k) (hz : Off (· = g) wd V) (hg : W0.heap.size ≤ g) (hg2 : ¬ O' g) (cg : V.cell? ⟨g, 0, none⟩ = some (.int .i64 a.1) ∧ V.cell? ⟨g, 1, none⟩ = some (.int .i64 a.2)) : PuMid M w V T O O' s p w.heap.size g a := by
  have hlt := h.lt
  have s1 := hc.size
  have s2 := hof.size
  have hOl : ∀ k, O k → k < w.heap.size := fun k hk => M.lt h.at_ hk
  have nB : ¬ O' w.heap.size := fun e => by rcases hO' _ e with e | e; have := hOl _ e; omega; omega
  have nT : ¬ O' T := fun e => by rcases hO' _ e with e | e; exact h.ne e; omega
  have nBO : ¬ O w.heap.size := fun e => by have := hOl _ e; omega
  have tc : ∀ j, V.cell? ⟨T, j, none⟩ = w.cell? ⟨T, j, none⟩ := fun j => ((hz.cell (p := ⟨T, j, none⟩) (by show T < _; omega) (by show ¬ T = g; omega)).trans (hof.cell (p := ⟨T, j, none⟩) (by show T < _; omega) h.ne)).trans ((hc.cell (p := ⟨T, j, none⟩) (by show T < _; omega)).trans (hb.cell (p := ⟨T, j, none⟩) (by show T < _; omega)))
  have tf : V.frozen? ⟨T, 1, none⟩ = w.frozen? ⟨T, 1, none⟩ := ((hz.frozen (p := ⟨T, 1, none⟩) (by show T < _; omega) (by show ¬ T = g; omega)).trans (hof.frozen (p := ⟨T, 1, none⟩) (by show T < _; omega) h.ne)).trans ((hc.frozen (p := ⟨T, 1, none⟩) (by show T < _; omega)).trans (hb.frozen (p := ⟨T, 1, none⟩) (by show T < _; omega)))
  have bx : Box0 V w.heap.size := ((c0.off (S := fun _ => False) (Off.of_below hc) id).off hof nBO).off hz (by omega)
  exact ⟨⟨M.off hA hz (fun k e => by cases e; exact hg2), nT, (tc 0).trans h.sk, (tc 1).trans h.pu, tf.trans h.fr⟩,
    (((Off.of_below hb).step hc).trans hof).late hz (fun i hi e => by cases e; omega), fun k e => (hO' k e).imp id (fun e => by have := hb.size; omega), nB, bx, cg, by omega, by omega, by omega⟩
theorem box2_set2 {w : World} {g : Nat} {a b v0 v1 : Value} (h0 : w.cell? ⟨g, 0, none⟩ = some a) (h1 : w.cell? ⟨g, 1, none⟩ = some b) :
    ((w.setCell ⟨g, 0, none⟩ v0).setCell ⟨g, 1, none⟩ v1).cell? ⟨g, 0, none⟩ = some v0 ∧ ((w.setCell ⟨g, 0, none⟩ v0).setCell ⟨g, 1, none⟩ v1).cell? ⟨g, 1, none⟩ = some v1 := by
  have n1 : (⟨g, 1, none⟩ : Addr) ≠ ⟨g, 0, none⟩ := fun e => by injection e with e1 e2; omega
  refine ⟨?_, World.cell?_setCell_same _ _ _ ((World.cell?_setCell_other _ _ _ _ n1.symm).trans h1)⟩
  rw [World.cell?_setCell_other _ _ _ _ n1]
  exact World.cell?_setCell_same _ _ _ h0
section
variable {σ : Type} {K : SnkF σ} {M : Snk K} {w V : World} {T : Nat} {O O' : Nat → Prop} {s ss : σ} {p : Int} {g : Nat} {a : Int × Int}
theorem PuMid.end0 (h : PuMid M w V T O O' s p w.heap.size g a) : ((V.setCell ⟨w.heap.size, 0, none⟩ (.int .i64 a.1)).setCell ⟨w.heap.size, 1, none⟩ (.int .i64 a.2)).cell? ⟨w.heap.size, 0, none⟩ = some (.int .i64 a.1) ∧ ((V.setCell ⟨w.heap.size, 0, none⟩ (.int .i64 a.1)).setCell ⟨w.heap.size, 1, none⟩ (.int .i64 a.2)).cell? ⟨w.heap.size, 1, none⟩ = some (.int .i64 a.2) ∧
    TrAt M ((V.setCell ⟨w.heap.size, 0, none⟩ (.int .i64 a.1)).setCell ⟨w.heap.size, 1, none⟩ (.int .i64 a.2)) T O' s p ∧ Off (OT O T) w ((V.setCell ⟨w.heap.size, 0, none⟩ (.int .i64 a.1)).setCell ⟨w.heap.size, 1, none⟩ (.int .i64 a.2)) := by
  obtain ⟨e1, e2⟩ := box2_set2 (v0 := .int .i64 a.1) (v1 := .int .i64 a.2) h.bB.1.1 h.bB.1.2
  have ho : Off (· = w.heap.size) V ((V.setCell ⟨w.heap.size, 0, none⟩ (.int .i64 a.1)).setCell ⟨w.heap.size, 1, none⟩ (.int .i64 a.2)) := ((Off.refl (· = w.heap.size) V).setCell (p := ⟨w.heap.size, 0, none⟩) rfl _).setCell (p := ⟨w.heap.size, 1, none⟩) rfl _
  exact ⟨e1, e2, h.tr.off ho (fun k e => by rw [e]; exact h.nB) h.ne.2.1, (h.off.mono fun _ e => Or.inl e).late ho fun i hi e => by omega⟩
theorem PuMid.end1 (h : PuMid M w V T O O' s p w.heap.size g a) (p' : Int) : (((V.setCell ⟨T, 1, none⟩ (.int .i64 p')).setCell ⟨w.heap.size, 0, none⟩ (.int .i64 a.1)).setCell ⟨w.heap.size, 1, none⟩ (.int .i64 a.2)).cell? ⟨w.heap.size, 0, none⟩ = some (.int .i64 a.1) ∧ (((V.setCell ⟨T, 1, none⟩ (.int .i64 p')).setCell ⟨w.heap.size, 0, none⟩ (.int .i64 a.1)).setCell ⟨w.heap.size, 1, none⟩ (.int .i64 a.2)).cell? ⟨w.heap.size, 1, none⟩ = some (.int .i64 a.2) ∧
    TrAt M (((V.setCell ⟨T, 1, none⟩ (.int .i64 p')).setCell ⟨w.heap.size, 0, none⟩ (.int .i64 a.1)).setCell ⟨w.heap.size, 1, none⟩ (.int .i64 a.2)) T O' s p' ∧ Off (OT O T) w (((V.setCell ⟨T, 1, none⟩ (.int .i64 p')).setCell ⟨w.heap.size, 0, none⟩ (.int .i64 a.1)).setCell ⟨w.heap.size, 1, none⟩ (.int .i64 a.2)) := by
  have hT : Off (· = T) V (V.setCell ⟨T, 1, none⟩ (.int .i64 p')) := (Off.refl (· = T) V).setCell (p := ⟨T, 1, none⟩) rfl _
  have hbx := h.bB.off hT (fun e => h.ne.2.1 e.symm)
  obtain ⟨e1, e2⟩ := box2_set2 (v0 := .int .i64 a.1) (v1 := .int .i64 a.2) hbx.1.1 hbx.1.2
  have ho : Off (· = w.heap.size) (V.setCell ⟨T, 1, none⟩ (.int .i64 p')) (((V.setCell ⟨T, 1, none⟩ (.int .i64 p')).setCell ⟨w.heap.size, 0, none⟩ (.int .i64 a.1)).setCell ⟨w.heap.size, 1, none⟩ (.int .i64 a.2)) := ((Off.refl (· = w.heap.size) _).setCell (p := ⟨w.heap.size, 0, none⟩) rfl _).setCell (p := ⟨w.heap.size, 1, none⟩) rfl _
  exact ⟨e1, e2, (h.tr.setPu p').off ho (fun k e => by rw [e]; exact h.nB) h.ne.2.1, ((h.off.mono fun _ e => Or.inl e).trans (hT.mono fun _ e => Or.inr e)).late ho fun i hi e => by omega⟩
theorem tp_ok {x : RN} (hy : K.put ss (nodeB x) = (s, a, 0)) (h : PuMid M w V T O O' s p w.heap.size g a) : TrPost M w T O (tputF K (ss, p) x) (.returned (.tuple #[.agg #[.int .i64 a.1, .int .i64 a.2], .int .i64 0])) (((V.setCell ⟨T, 1, none⟩ (.int .i64 (wrap64 (p + 1)))).setCell ⟨w.heap.size, 0, none⟩ (.int .i64 a.1)).setCell ⟨w.heap.size, 1, none⟩ (.int .i64 a.2)) := by
  have e : tputF K (ss, p) x = ((s, inc64 p), a, 0) := by unfold tputF; rw [hy]; rfl
  rw [e]
  exact ⟨O', rfl, (h.end1 _).2.2.1, (h.end1 _).2.2.2, h.hO⟩
theorem tp_err {x : RN} {er : Int} (hy : K.put ss (nodeB x) = (s, a, er)) (he : er ≠ 0) (h : PuMid M w V T O O' s p w.heap.size g a) : TrPost M w T O (tputF K (ss, p) x) (.returned (.tuple #[.agg #[.int .i64 a.1, .int .i64 a.2], .int .i64 er])) ((V.setCell ⟨w.heap.size, 0, none⟩ (.int .i64 a.1)).setCell ⟨w.heap.size, 1, none⟩ (.int .i64 a.2)) := by
  have e : tputF K (ss, p) x = ((s, p), a, er) := by unfold tputF; rw [hy]; simp only [he, if_false]
  rw [e]
  exact ⟨O', rfl, h.end0.2.2.1, h.end0.2.2.2, h.hO⟩
end
def ByUp (W0 W1 : World) (x : RN) (e : Ending) (w' : World) : Prop := ∃ v, e = .returned v ∧ Below W0.heap.size W0 w' ∧ SlA w' v (nodeB x) ∧ Below W1.heap.size W1 w'
set_option maxRecDepth 100000 in
set_option maxHeartbeats 2000000 in
theorem tput_any {σ : Type} {K : SnkF σ} {M : Snk K} {w : World} {T : Nat} {O : Nat → Prop} {s : σ} {p : Int} (h : TrAt M w T O s p) (hr : K.Rdy s 1) {X : Nat} {x : RN} {vv : Nat → Value} {vl : Value} (hx : NdAt w X x vv vl) (hok : x.Ok) :
    Calls Try.prog 54 #[.pointer (some ⟨T, 0, none⟩), .pointer (some ⟨X, 0, none⟩)] w (TrPost M w T O (tputF K (s, p) x)) := by
  have H := Lib.hid h
  have c0 := h.sk
  have hlt := h.lt
  have nP := M.nilP
  have mP := M.metP
  have eP := M.entP
  have HBY : ∀ (W0 w' : World) (hb0 : Below w.heap.size w W0) (hb : Below W0.heap.size W0 w'), Calls Try.prog 76 #[.pointer (some ⟨X, 0, none⟩)] w' (ByUp W0 w' x) := fun W0 w' hb0 hb =>
    (bytes_any ((hx.up hb0).up hb) hok).mono fun e w2 ⟨A, c, he, hf⟩ => ⟨_, he, hb.trans (hf.bel.mono hb.size), hf.slA.1, hf.bel⟩
  have HB := Lib.hid HBY
  clear HBY
  have hle := nodeB_le hok
  clear h
  have hlx := hx.lt
  clear hx
  go_enter Try.func54, Try.ntmps54
  go_wp2
  refine wp_forget (fun V => Below w.heap.size w V ∧ w.heap.size < V.heap.size ∧ Box0 V w.heap.size) ?_ ?_
  · exact ⟨(Below.refl _ _).alloc (Nat.le_refl _) _, by simp, Box0.new _ _⟩
  rintro W0 ⟨hb0, hs0, hc0⟩
  have cT : W0.cell? ⟨T, 0, none⟩ = some (.iface M.T (.pointer M.p)) := (hb0.cell (p := ⟨T, 0, none⟩) hlt).trans c0
  have lT : T < W0.heap.size := by omega
  have HB0 := Lib.hid hb0
  have HC0 := Lib.hid hc0
  have HPU : ∀ (wc : World) (v : Value) (hb : Below W0.heap.size W0 wc) (hv : SlA wc v (nodeB x)), Calls Try.prog M.fp #[.pointer M.p, v] wc (PuPost M.At K wc O s (nodeB x)) := fun wc v hb hv =>
    M.put (M.off H.out.at_ ((Off.of_below HB0.out).step hb) (fun _ => False.elim)) hr hv hle
  have HP := Lib.hid HPU
  have nOt : ∀ g, w.heap.size ≤ g → ¬ O g := fun g hg e => by have := M.lt H.out.at_ e; omega
  clear hb0 hc0 c0 HPU
  obtain ⟨y, hy⟩ : ∃ y, K.put s (nodeB x) = y := ⟨_, rfl⟩
  obtain ⟨ss, a, er⟩ := y
  have HY := Lib.hid hy
  clear hy
  go_region_law (first
    | (go_simp; go_at_call 76; refine (HB.out W0 _ HB0.out (by first | exact (Below.refl _ _).drew | exact ((Below.refl _ _).alloc (Nat.le_refl _) _).drew)).mono ?_; rintro e w2 ⟨v2, rfl, hb2, hv2, hb3⟩; (first | (have kb := Box0.new_up hb3) | skip); have cT2 := (hb2.cell (p := ⟨T, 0, none⟩) lT).trans cT; have lT2 := Nat.lt_of_lt_of_le lT hb2.size; have HB2 := Lib.hid hb2; have HV2 := Lib.hid hv2; clear hb2 hv2 hb3)
    | (go_simp; (with_reducible refine (HP.out _ _ (by first | exact HB2.out | exact HB2.out.alloc HB2.out.size _) (by first | exact HV2.out | exact HV2.out.off (Off.of_below ((Below.refl _ _).alloc (Nat.le_refl _) _)) (fun _ _ _ _ _ h => h))).mono ?_); rintro e w3 ⟨O', he, hA, hof, hO'⟩; (rw [HY.out] at he hA); (unfold addrV at he); subst he; (first | (have kb2 := kb.off hof (nOt _ (by omega)); obtain ⟨⟨k0, k1⟩, kf⟩ := kb2; have kf0 := kf 0; have kf1 := kf 1) | (have kb2 := Box0.new_off hof (nOt _ (by have := HB2.out.size; omega)); obtain ⟨⟨k0, k1⟩, kf⟩ := kb2; have kf0 := kf 0; have kf1 := kf 1) | skip); have HA := Lib.hid hA; have HOF := Lib.hid hof; have HO' := Lib.hid hO'; clear hA hof hO'))
  all_goals
    go_upto_region 2 with (fail)
    first
      | refine wp_forget (fun V => PuMid M w V T O O' ss p w.heap.size w3.heap.size a) (PuMid.of H.out HB0.out hs0 HC0.out HB2.out HA.out HOF.out HO'.out (Off.of_below ((Below.refl _ _).alloc (Nat.le_refl _) _)) (by have := HB2.out.size; have := HOF.out.size; omega) (fun e => by have := M.lt HA.out e; omega) ⟨?_, ?_⟩) ?_
        · rw [cell_of_row _ _ _ _ _ _ (heap_alloc_new w3 _)]; rfl
        · rw [cell_of_row _ _ _ _ _ _ (heap_alloc_new w3 _)]; rfl
      | refine wp_forget (fun V => PuMid M w V T O O' ss p w.heap.size w2.heap.size a) (PuMid.of H.out HB0.out hs0 HC0.out (HB2.out.alloc HB2.out.size _) HA.out HOF.out HO'.out (((Off.refl (· = w2.heap.size) w3).setCell (p := ⟨w2.heap.size, 0, none⟩) rfl _).setCell (p := ⟨w2.heap.size, 1, none⟩) rfl _) (by have := HB2.out.size; omega) (fun e => by rcases HO'.out _ e with e | e; exact nOt _ (by have := HB2.out.size; omega) e; simp at e; omega) (box2_set2 k0 k1)) ?_
      | refine wp_forget (fun V => PuMid M w V T O O' ss p w.heap.size W0.heap.size a) (PuMid.of H.out HB0.out hs0 HC0.out HB2.out HA.out HOF.out HO'.out (((Off.refl (· = W0.heap.size) w3).setCell (p := ⟨W0.heap.size, 0, none⟩) rfl _).setCell (p := ⟨W0.heap.size, 1, none⟩) rfl _) (Nat.le_refl _) (fun e => by rcases HO'.out _ e with e | e; exact nOt _ (by omega) e; have := lt_of_cell kb.1.1; omega) (box2_set2 k0 k1)) ?_
    rintro V hm
    have HM := Lib.hid hm
    have c1 := hm.tr.pu
    have f1 := hm.tr.fr
    obtain ⟨g0, g1⟩ := hm.cg
    obtain ⟨⟨b0, b1⟩, bf⟩ := hm.bB
    have bf0 := bf 0
    have bf1 := bf 1
    obtain ⟨n1, n2, n3⟩ := hm.ne
    have n4 := n1.symm
    have n5 := n2.symm
    have n6 := n3.symm
    clear hm bf
    by_cases he0 : er = 0
    · subst he0
      go_wp2
      refine bodyPost_ret (results_addr rfl _ _ _ _ _ rfl (HM.out.end1 _).1 (HM.out.end1 _).2.1) rfl ?_
      exact tp_ok HY.out HM.out
    · go_wp2
      refine bodyPost_ret (results_addr rfl _ _ _ _ _ rfl HM.out.end0.1 HM.out.end0.2.1) rfl ?_
      exact tp_err HY.out he0 HM.out
end Go.Proofs.Ytgkdggidgaifhaa
