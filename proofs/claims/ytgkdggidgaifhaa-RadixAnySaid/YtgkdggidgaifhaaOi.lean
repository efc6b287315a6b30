/- radix: walk. -/
import Derived.Test.YtgkdggidgaifhaaOe
namespace Go.Proofs.Ytgkdggidgaifhaa
open Go.RowKit
set_option linter.unusedVariables false
set_option linter.unusedSimpArgs false

theorem tget_fst {σ : Type} {K : SnkF σ} {s : σ} {r : Int × Int} {l q : Nat} : (tgetF K s r l q).1 = (K.get s r).1 := by
  unfold tgetF
  split
  · rfl
  · split
    · rfl
    · split <;> rfl
/-- The function that goes over nodes has answered. -/
def VsPost {α : Type} (Iv : World → (Nat → Prop) → α → Prop) (w : World) (O : Nat → Prop) (y : α × Bool) (e : Ending) (w' : World) : Prop :=
  ∃ O' : Nat → Prop, e = .returned (.bool y.2) ∧ Iv w' O' y.1 ∧ Off O w w' ∧ ∀ k, O' k → O k ∨ w.heap.size ≤ k
/-- What the function that goes over nodes is: a closure, its own state, its own blocks. -/
structure Vis {α : Type} (cb : α → Int × Int → RN → α × Bool) where
  gf : FuncId
  lb : Array Value
  ent : ∀ (args : Array Value) (w : World), (callFunc gf args).run Try.prog w = .ok (.enter gf args) w
  Iv : World → (Nat → Prop) → α → Prop
  Rdy : α → Nat → Prop
  mono : ∀ a n m, Rdy a n → m ≤ n → Rdy a m
  step : ∀ a r x n, Rdy a (n + 1) → (cb a r x).2 = true → Rdy (cb a r x).1 n
  off : ∀ {S O : Nat → Prop} {w w' : World} {a : α}, Iv w O a → Off S w w' → (∀ k, S k → ¬ O k) → Iv w' O a
  lt : ∀ {O : Nat → Prop} {w : World} {a : α} {k : Nat}, Iv w O a → O k → k < w.heap.size
  call : ∀ {w : World} {O : Nat → Prop} {a : α} {X : Nat} {x : RN} {vv : Nat → Value} {vl : Value} (r : Int × Int), Iv w O a → Rdy a 1 → x.Ok → Bd r → NdAt w X x vv vl → ¬ O X → ValsP (fun b => ¬ O b) vv vl →
    Calls Try.prog gf (#[addrV r, .pointer (some ⟨X, 0, none⟩)] ++ lb) w (VsPost Iv w O (cb a r x))
/-- A walk under way. -/
structure WkAt {σ α : Type} {K : SnkF σ} {cb : α → Int × Int → RN → α × Bool} (M : Snk K) (V : Vis cb) (w : World) (T g : Nat) (O Ov : Nat → Prop) (p : Int) (st : WkSt σ α) : Prop where
  tr : TrAt M w T O st.1 p
  iv : V.Iv w Ov st.2.2
  cg : w.cell? ⟨g, 0, none⟩ = some (.int .i64 st.2.1)
  fg : w.frozen? ⟨g, 0, none⟩ = false
  d1 : ∀ k, O k → ¬ Ov k
  d2 : ¬ O g
  d3 : ¬ Ov g
  d4 : g ≠ T
  d5 : ¬ Ov T
/-- Neither the tree's nor the function's nor the count's. -/
def WOut (T g : Nat) (O Ov : Nat → Prop) : Nat → Prop := fun b => ¬ O b ∧ ¬ Ov b ∧ b ≠ g ∧ b ≠ T
structure WkIs {σ α : Type} {K : SnkF σ} {cb : α → Int × Int → RN → α × Bool} (M : Snk K) (V : Vis cb) (w : World) (T g : Nat) (O Ov Ov' : Nat → Prop) (p : Int) (st : WkSt σ α) (w' : World) : Prop where
  at_ : WkAt M V w' T g O Ov' p st
  off : Off (fun k => O k ∨ Ov k ∨ k = g) w w'
  hO : ∀ k, Ov' k → Ov k ∨ w.heap.size ≤ k
section
variable {σ α : Type} {K : SnkF σ} {cb : α → Int × Int → RN → α × Bool} {M : Snk K} {V : Vis cb} {w w' : World} {T g : Nat} {O Ov Ov' : Nat → Prop} {p : Int} {st : WkSt σ α}
theorem WkAt.lt (h : WkAt M V w T g O Ov p st) : g < w.heap.size := lt_of_cell h.cg
theorem WkAt.fresh (h : WkAt M V w T g O Ov p st) {b : Nat} (hb : w.heap.size ≤ b) : WOut T g O Ov b :=
  ⟨fun e => by have := M.lt h.tr.at_ e; omega, fun e => by have := V.lt h.iv e; omega, fun e => by have := h.lt; omega, fun e => by have := h.tr.lt; omega⟩
theorem WkAt.offW {S : Nat → Prop} (h : WkAt M V w T g O Ov p st) (ho : Off S w w') (hs : ∀ k, S k → WOut T g O Ov k) : WkAt M V w' T g O Ov p st :=
  ⟨h.tr.off ho (fun k e => (hs k e).1) (fun e => (hs T e).2.2.2 rfl), V.off h.iv ho (fun k e => (hs k e).2.1), (ho.cell (p := ⟨g, 0, none⟩) h.lt (fun e => (hs g e).2.2.1 rfl)).trans h.cg, (ho.frozen (p := ⟨g, 0, none⟩) h.lt (fun e => (hs g e).2.2.1 rfl)).trans h.fg, h.d1, h.d2, h.d3, h.d4, h.d5⟩
theorem WkIs.refl (h : WkAt M V w T g O Ov p st) : WkIs M V w T g O Ov Ov p st w := ⟨h, Off.refl _ _, fun _ e => .inl e⟩
theorem WkIs.out (h : WkIs M V w T g O Ov Ov' p st w') {b : Nat} (hb : WOut T g O Ov b) (hl : b < w.heap.size) : WOut T g O Ov' b := ⟨hb.1, fun e => by rcases h.hO b e with e | e; exact hb.2.1 e; omega, hb.2.2⟩
theorem WOut.not {b : Nat} (h : WOut T g O Ov b) : ¬ (O b ∨ Ov b ∨ b = g) := fun e => by
  rcases e with e | e | e
  · exact h.1 e
  · exact h.2.1 e
  · exact h.2.2.1 e
theorem WkIs.box (h : WkIs M V w T g O Ov Ov' p st w') {b : Nat} {r : Int × Int} (hg : WOut T g O Ov b) (hb : BoxA w b r) : BoxA w' b r := hb.off h.off hg.not
theorem WkIs.nd (h : WkIs M V w T g O Ov Ov' p st w') {X : Nat} {x : RN} {vv : Nat → Value} {vl : Value} (hX : WOut T g O Ov X) (hv : ValsP (WOut T g O Ov) vv vl) (hn : NdAt w X x vv vl) : NdAt w' X x vv vl ∧ WOut T g O Ov' X ∧ ValsP (WOut T g O Ov') vv vl :=
  ⟨hn.offP h.off hX.not (hv.mono fun b hb => hb.not), h.out hX hn.lt, ⟨fun i hi b o n c e h0 => h.out (hv.1 i hi b o n c e h0) (hn.inl.1 i hi b o n c e h0), fun b o n c e h0 => h.out (hv.2 b o n c e h0) (hn.inl.2 b o n c e h0)⟩⟩
theorem WkIs.trans {Ov'' : Nat → Prop} {st2 : WkSt σ α} {w2 : World} (h : WkIs M V w T g O Ov Ov' p st w') (k : WkIs M V w' T g O Ov' Ov'' p st2 w2) : WkIs M V w T g O Ov Ov'' p st2 w2 :=
  ⟨k.at_, h.off.late k.off (fun b hl hb => by
    rcases hb with hb | hb | hb
    · exact .inl hb
    · rcases h.hO b hb with e | e
      · exact .inr (.inl e)
      · omega
    · exact .inr (.inr hb)), fun b hb => by
    rcases k.hO b hb with e | e
    · exact h.hO b e
    · exact .inr (Nat.le_trans h.off.size e)⟩
theorem WkIs.up {w2 : World} (h : WkIs M V w T g O Ov Ov' p st w') (hb : Below w'.heap.size w' w2) : WkIs M V w T g O Ov Ov' p st w2 :=
  h.trans ⟨h.at_.offW (S := fun _ => False) (Off.of_below hb) (fun _ => False.elim), (Off.of_below hb).mono (fun _ => False.elim), fun _ e => .inl e⟩
/-- The tree's get has answered. -/
theorem WkAt.got {s1 : σ} (h : WkAt M V w T g O Ov p st) (ht : TrAt M w' T O s1 p) (ho : Off O w w') : WkIs M V w T g O Ov Ov p (s1, st.2) w' :=
  ⟨⟨ht, V.off h.iv ho (fun k e => h.d1 k e), (ho.cell (p := ⟨g, 0, none⟩) h.lt h.d2).trans h.cg, (ho.frozen (p := ⟨g, 0, none⟩) h.lt h.d2).trans h.fg, h.d1, h.d2, h.d3, h.d4, h.d5⟩, ho.mono fun _ e => .inl e, fun _ e => .inl e⟩
/-- The function has answered. -/
theorem WkAt.seen {a' : α} (h : WkAt M V w T g O Ov p st) (hi : V.Iv w' Ov' a') (ho : Off Ov w w') (hO : ∀ k, Ov' k → Ov k ∨ w.heap.size ≤ k) : WkIs M V w T g O Ov Ov' p (st.1, st.2.1, a') w' :=
  ⟨⟨h.tr.off ho (fun k e e2 => h.d1 k e2 e) h.d5, hi, (ho.cell (p := ⟨g, 0, none⟩) h.lt h.d3).trans h.cg, (ho.frozen (p := ⟨g, 0, none⟩) h.lt h.d3).trans h.fg, fun k e e2 => by
    rcases hO k e2 with e3 | e3
    · exact h.d1 k e e3
    · have := M.lt h.tr.at_ e; omega, h.d2, fun e => by
    rcases hO g e with e3 | e3
    · exact h.d3 e3
    · have := h.lt; omega, h.d4, fun e => by
    rcases hO T e with e3 | e3
    · exact h.d5 e3
    · have := h.tr.lt; omega⟩, ho.mono fun _ e => .inr (.inl e), hO⟩
/-- The count goes down. -/
theorem WkAt.less (h : WkAt M V w T g O Ov p st) (l' : Int) : WkIs M V w T g O Ov Ov p (st.1, l', st.2.2) (w.setCell ⟨g, 0, none⟩ (.int .i64 l')) := by
  have ho : Off (· = g) w (w.setCell ⟨g, 0, none⟩ (.int .i64 l')) := (Off.refl (· = g) w).setCell (p := ⟨g, 0, none⟩) rfl _
  refine ⟨⟨h.tr.off ho (fun k e e2 => h.d2 (e ▸ e2)) (fun e => h.d4 e.symm), V.off h.iv ho (fun k e e2 => h.d3 (e ▸ e2)), ?_, ?_, h.d1, h.d2, h.d3, h.d4, h.d5⟩, ho.mono fun _ e => .inr (.inr e), fun _ e => .inl e⟩
  · exact World.cell?_setCell_same _ _ _ h.cg
  · exact (World.frozen?_setCell _ _ _ _).trans h.fg
end
/-- The walk has answered. -/
def WkPost {σ α : Type} {K : SnkF σ} {cb : α → Int × Int → RN → α × Bool} (M : Snk K) (V : Vis cb) (w : World) (T g : Nat) (O Ov : Nat → Prop) (p : Int) (y : WkSt σ α × Bool × Int) (e : Ending) (w' : World) : Prop :=
  ∃ Ov' : Nat → Prop, e = .returned (.tuple #[.bool y.2.1, .int .i64 y.2.2]) ∧ WkIs M V w T g O Ov Ov' p y.1 w'
end Go.Proofs.Ytgkdggidgaifhaa
