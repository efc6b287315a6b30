/- radix: a node in memory beside a sink; new nodes. -/
import Derived.Test.YtgkdggidgaifhaaOd
namespace Go.Proofs.Ytgkdggidgaifhaa
open Go.RowKit
set_option linter.unusedVariables false
set_option linter.unusedSimpArgs false

/-- Where a value's bytes lie, if it has any. -/
def VIn (Vb : Nat → Prop) (v : Value) : Prop := ∀ b o n c, v = .slice (some ⟨b, o, none⟩) n c → 0 < n → Vb b
def ValsP (Vb : Nat → Prop) (vv : Nat → Value) (vl : Value) : Prop := (∀ i, i < 16 → VIn Vb (vv i)) ∧ VIn Vb vl
theorem VIn.mono {V V' : Nat → Prop} {v : Value} (h : VIn V v) (hm : ∀ b, V b → V' b) : VIn V' v := fun b o n c e hn => hm b (h b o n c e hn)
theorem ValsP.mono {V V' : Nat → Prop} {vv : Nat → Value} {vl : Value} (h : ValsP V vv vl) (hm : ∀ b, V b → V' b) : ValsP V' vv vl := ⟨fun i hi => (h.1 i hi).mono hm, h.2.mono hm⟩
theorem ValsIn.p {V : Nat → Prop} {vv : Nat → Value} {vl : Value} (h : ValsIn V vv vl) : ValsP V vv vl := ⟨fun i hi b o n c e _ => h.1 i b o n c hi e, fun b o n c e _ => h.2 b o n c e⟩
theorem SlB.offP {S : Nat → Prop} {w w' : World} {v : Value} {L : Bytes} (h : SlB w v L) (ho : Off S w w') (hs : VIn (fun b => ¬ S b) v) : SlB w' v L := by
  obtain ⟨A, n, c, rfl, h1, h2⟩ := h
  refine ⟨A, n, c, rfl, h1, ?_⟩
  rcases Nat.eq_zero_or_pos n with h0 | h0
  · subst h0
    have : L = [] := by simpa using h2.1
    subst this
    exact SBy.nil _ _
  · exact h2.off ho fun k o e => hs k o n c (by rw [e]) h0
/-- A value's bytes lie in blocks that are there. -/
theorem SlB.inl {w : World} {v : Value} {L : Bytes} (h : SlB w v L) : VIn (fun b => b < w.heap.size) v := by
  obtain ⟨A, n, c, rfl, h1, h2⟩ := h
  intro b o n' c' e hn
  cases e
  obtain ⟨b', o', e', hc⟩ := h2.2 hn
  cases e'
  exact hc.1
section
variable {w w' : World} {X : Nat} {x : RN} {vv : Nat → Value} {vl : Value} {Vb S : Nat → Prop}
theorem NdAt.offP (h : NdAt w X x vv vl) (ho : Off S w w') (h1 : ¬ S X) (h2 : ValsP (fun b => ¬ S b) vv vl) : NdAt w' X x vv vl :=
  ⟨fun k hk => (ho.cell (p := ⟨X, k, none⟩) h.lt h1).trans (h.row k hk), fun k => (ho.frozen (p := ⟨X, k, none⟩) h.lt h1).trans (h.free k), fun i hi => (h.vs i hi).offP ho (h2.1 i hi), h.v.offP ho h2.2⟩
theorem NdAt.inl (h : NdAt w X x vv vl) : ValsP (fun b => b < w.heap.size) vv vl := ⟨fun i hi => (h.vs i hi).inl, h.v.inl⟩
theorem NdAt.setP {x' : RN} {vv' : Nat → Value} {vl' : Value} (h : NdAt w X x vv vl) (k0 : Nat) (v : Value) (hk : k0 < 68) (hc : ∀ k, k < 68 → nodeC x' vv' vl' k = if k = k0 then v else nodeC x vv vl k)
    (hv : ValsP Vb vv' vl') (hX : ¬ Vb X) (h1 : ∀ i, i < 16 → SlB w (vv' i) (x'.vals i)) (h2 : SlB w vl' x'.val) : NdAt (w.setCell ⟨X, k0, none⟩ v) X x' vv' vl' := by
  have ho : Off (· = X) w (w.setCell ⟨X, k0, none⟩ v) := (Off.refl (· = X) w).setCell (p := ⟨X, k0, none⟩) rfl _
  have hv2 := hv.mono (V' := fun b => ¬ b = X) fun b hb e => hX (e ▸ hb)
  refine ⟨fun k hk => ?_, fun k => (World.frozen?_setCell _ _ _ _).trans (h.free k), fun i hi => (h1 i hi).offP ho (hv2.1 i hi), h2.offP ho hv2.2⟩
  rw [hc k hk]
  split
  · rename_i e; subst e; exact World.cell?_setCell_same _ _ _ (h.row k hk)
  · rename_i e
    rw [World.cell?_setCell_other _ _ _ _ (by intro e2; injection e2 with _ e3; exact e e3.symm)]
    exact h.row k hk
theorem NdAt.setHasP (h : NdAt w X x vv vl) (hv : ValsP Vb vv vl) (hX : ¬ Vb X) {i : Nat} (hi : i < 16) (b : Bool) : NdAt (w.setCell ⟨X, 50 + i, none⟩ (.bool b)) X { x with has := upd x.has i b } vv vl :=
  h.setP _ _ (by omega) (fun k _ => nodeC_has x vv vl b hi k) hv hX h.vs h.v
theorem NdAt.setKidP (h : NdAt w X x vv vl) (hv : ValsP Vb vv vl) (hX : ¬ Vb X) {i : Nat} (hi : i < 16) (a : Int × Int) : NdAt ((w.setCell ⟨X, 2 + i * 2, none⟩ (.int .i64 a.1)).setCell ⟨X, 2 + i * 2 + 1, none⟩ (.int .i64 a.2)) X { x with kids := upd x.kids i a } vv vl := by
  have h1 := h.setP _ (.int .i64 a.1) (by omega) (fun k _ => nodeC_kid1 x vv vl a.1 hi k) hv hX h.vs h.v
  have h2 := h1.setP _ (.int .i64 a.2) (by omega) (fun k _ => nodeC_kid2 _ vv vl a.2 hi k) hv hX h1.vs h1.v
  have e : upd (upd x.kids i (a.1, (x.kids i).2)) i ((upd x.kids i (a.1, (x.kids i).2) i).1, a.2) = upd x.kids i a := by
    funext j
    simp only [upd]
    split <;> simp
  simp only [e] at h2
  exact h2
theorem ValsP.setVals (hv : ValsP Vb vv vl) {i : Nat} {v : Value} (hb : VIn Vb v) : ValsP Vb (upd vv i v) vl := ⟨fun j hj => by
    by_cases hji : j = i
    · subst hji; rw [upd_same]; exact hb
    · rw [upd_other _ _ _ hji]; exact hv.1 j hj, hv.2⟩
theorem NdAt.setValsP (h : NdAt w X x vv vl) (hv : ValsP Vb vv vl) (hX : ¬ Vb X) {i : Nat} (hi : i < 16) {v : Value} {L : Bytes} (hs : SlB w v L) (hb : VIn Vb v) : NdAt (w.setCell ⟨X, 34 + i, none⟩ v) X { x with vals := upd x.vals i L } (upd vv i v) vl :=
  h.setP (x' := { x with vals := upd x.vals i L }) (vv' := upd vv i v) (vl' := vl) (34 + i) v (by omega) (fun k _ => nodeC_vals x vv vl L v hi k) (hv.setVals hb) hX (fun j hj => by
    by_cases hji : j = i
    · subst hji; simp only [upd_same]; exact hs
    · simp only [upd_other _ _ _ hji]; exact h.vs j hj) h.v
theorem NdAt.setValP (h : NdAt w X x vv vl) (hv : ValsP Vb vv vl) (hX : ¬ Vb X) {v : Value} {L : Bytes} (hs : SlB w v L) (hb : VIn Vb v) : NdAt (w.setCell ⟨X, 67, none⟩ v) X { x with val := L } vv v :=
  h.setP (x' := { x with val := L }) (vv' := vv) (vl' := v) 67 v (by omega) (fun k hk => nodeC_val x vv vl L v hk) ⟨hv.1, hb⟩ hX h.vs hs
end
/-! ### new nodes -/
def nilV : Nat → Value := fun _ => .slice none 0 0
theorem nilV_p (Vb : Nat → Prop) : ValsP Vb nilV (.slice none 0 0) := ⟨fun i _ b o n c e => (by cases e), fun b o n c e => (by cases e)⟩
theorem nilVl_p {Vb : Nat → Prop} {v : Value} (h : VIn Vb v) : ValsP Vb nilV v := ⟨fun i _ b o n c e => (by cases e), h⟩
theorem lone_cells (key : Nat) (v : Value) : ((Try.zeroCells95.setIfInBounds 0 (.int .i64 6)).setIfInBounds 66 (.int .i64 (key : Nat))).setIfInBounds 67 v = ((List.range 68).map (nodeC (loneR key []) nilV v)).toArray := by kernel_rfl
theorem fork0_cells (l q : Nat) : (Try.zeroCells95.setIfInBounds 0 (.int .i64 (l : Nat))).setIfInBounds 1 (.int .i64 (q : Nat)) = ((List.range 68).map (nodeC { rn0 l with prefix_ := q } nilV (.slice none 0 0))).toArray := by kernel_rfl
theorem nodeC_loneval (key : Nat) (L : Bytes) (v : Value) : nodeC (loneR key L) nilV v = nodeC (loneR key []) nilV v := rfl
/-- What is no tree's. -/
def Out (O : Nat → Prop) (T : Nat) : Nat → Prop := fun b => ¬ O b ∧ b ≠ T
theorem Out.not {O : Nat → Prop} {T b : Nat} (h : Out O T b) : ¬ OT O T b := fun e => e.elim h.1 h.2
section
variable {σ : Type} {K : SnkF σ} {M : Snk K} {w w' : World} {T : Nat} {O : Nat → Prop} {y : (σ × Int) × (Int × Int) × Int}
/-- What a tree's answer leaves. -/
structure TrIs (M : Snk K) (w : World) (T : Nat) (O O' : Nat → Prop) (st : σ × Int) (w' : World) : Prop where
  tr : TrAt M w' T O' st.1 st.2
  off : Off (OT O T) w w'
  hO : ∀ k, O' k → O k ∨ w.heap.size ≤ k
theorem TrPost.is {e : Ending} (h : TrPost M w T O y e w') : ∃ O', e = .returned (.tuple #[addrV y.2.1, .int .i64 y.2.2]) ∧ TrIs M w T O O' y.1 w' := by
  obtain ⟨O', h1, h2, h3, h4⟩ := h
  exact ⟨O', h1, h2, h3, h4⟩
theorem TrIs.post {O' : Nat → Prop} {e : Ending} (h : TrIs M w T O O' y.1 w') (he : e = .returned (.tuple #[addrV y.2.1, .int .i64 y.2.2])) : TrPost M w T O y e w' := ⟨O', he, h.tr, h.off, h.hO⟩
variable {O' : Nat → Prop} {st : σ × Int} (h : TrIs M w T O O' st w')
include h
theorem TrIs.out {b : Nat} (hb : Out O T b) (hl : b < w.heap.size) : Out O' T b := ⟨fun e => by rcases h.hO b e with e | e; exact hb.1 e; omega, hb.2⟩
theorem TrIs.box {g : Nat} {r : Int × Int} (hg : Out O T g) (hb : BoxA w g r) : BoxA w' g r := hb.off h.off hg.not
theorem TrIs.nd {X : Nat} {x : RN} {vv : Nat → Value} {vl : Value} (hX : Out O T X) (hv : ValsP (Out O T) vv vl) (hn : NdAt w X x vv vl) : NdAt w' X x vv vl ∧ Out O' T X ∧ ValsP (Out O' T) vv vl :=
  ⟨hn.offP h.off hX.not (hv.mono fun b hb => hb.not), h.out hX hn.lt, ⟨fun i hi b o n c e h0 => h.out (hv.1 i hi b o n c e h0) (hn.inl.1 i hi b o n c e h0), fun b o n c e h0 => h.out (hv.2 b o n c e h0) (hn.inl.2 b o n c e h0)⟩⟩
theorem TrIs.sl {v : Value} {L : Bytes} (hv : VIn (Out O T) v) (hs : SlB w v L) : SlB w' v L ∧ VIn (Out O' T) v :=
  ⟨hs.offP h.off (hv.mono fun b hb => hb.not), fun b o n c e h0 => h.out (hv b o n c e h0) (hs.inl b o n c e h0)⟩
theorem TrIs.step {S : Nat → Prop} {w2 : World} (ho : Off S w' w2) (hS : ∀ k, S k → Out O' T k ∧ (w.heap.size ≤ k ∨ OT O T k)) : TrIs M w T O O' st w2 :=
  ⟨h.tr.off ho (fun k e => (hS k e).1.1) (fun e => (hS T e).1.2 rfl), h.off.late ho fun i hi e => by rcases (hS i e).2 with h1 | h1; omega; exact h1, h.hO⟩
theorem TrIs.up {w2 : World} (hb : Below w'.heap.size w' w2) : TrIs M w T O O' st w2 := h.step (S := fun _ => False) (Off.of_below hb) (fun _ => False.elim)
theorem TrIs.trans {O'' : Nat → Prop} {st2 : σ × Int} {w2 : World} (k : TrIs M w' T O' O'' st2 w2) : TrIs M w T O O'' st2 w2 :=
  ⟨k.tr, h.off.late k.off fun i hi e => by rcases e with e | e; rcases h.hO i e with e | e; exact .inl e; omega; exact .inr e, fun b e => by rcases k.hO b e with e | e; exact h.hO b e; exact .inr (Nat.le_trans h.off.size e)⟩
end
theorem TrIs.refl {σ : Type} {K : SnkF σ} {M : Snk K} {w : World} {T : Nat} {O : Nat → Prop} {s : σ} {p : Int} (h : TrAt M w T O s p) : TrIs M w T O O (s, p) w := ⟨h, Off.refl _ _, fun _ e => .inl e⟩
theorem TrAt.outOf {σ : Type} {K : SnkF σ} {M : Snk K} {w : World} {T : Nat} {O : Nat → Prop} {s : σ} {p : Int} (h : TrAt M w T O s p) {g : Nat} (hg : w.heap.size ≤ g) : Out O T g := ⟨fun e => by have := M.lt h.at_ e; omega, fun e => by have := h.lt; omega⟩
end Go.Proofs.Ytgkdggidgaifhaa
