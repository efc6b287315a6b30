/- A range over a function that tells a list's elements, one by one. region: rows of regions; right, prot; Pieces. region: rows of regions that are made: append, Clone, Pieces. region: Pieces. -/
import Derived.Test.YtlhfjaagkgengaaGreatMS
import Derived.RangeFuncWrites
import Derived.RangeFuncNested
import Derived.RangeFuncBound
import Derived.RangeFuncCalls
import Derived.RangeFuncLeaves
import Derived.Shelf.Abstract
import Derived.Shelf.RegionOpen
import Derived.OwnWalkIn
import Derived.TacticsInMore
import Derived.LoopNIn
import Derived.LoopIn
import Derived.Stop.RegionWithIn
import Derived.Maps.AppendAt
import Derived.Sort.CutIn
namespace Go.Proofs.YtlhfjaagkgengaaGreat
open Go.RowKit
set_option linter.unusedVariables false
set_option linter.unusedSimpArgs false

theorem ent_fn {P : Program} {f : FuncId} {fn : Func} {c : Code} (hf : P.funcs[f]? = some fn) (hname : (fn.name == "runtime.NumGoroutine") = false) (hb : fn.body = some c) (args : Array Value) (w : World) : (callFunc f args).run P w = .ok (.enter f args) w := by
  have h1 : fn.name ≠ "runtime.NumGoroutine" := by simpa using hname
  simp [callFunc, hf, h1, hb, mark]
/-- The function that is handed on has answered. -/
def YdPost {α : Type} (Iv : World → (Nat → Prop) → α → Prop) (w : World) (O : Nat → Prop) (y : α × Bool) (e : Ending) (w' : World) : Prop :=
  ∃ O' : Nat → Prop, e = .returned (.bool y.2) ∧ Iv w' O' y.1 ∧ Off O w w' ∧ ∀ k, O' k → O k ∨ w.heap.size ≤ k
/-- A loop's rounds, as what goes over a list sees them. -/
structure YdL {α E : Type} (args : E → Array Value) (f : α → E → α × Bool) (al : α → Bool) where
  l : Nat
  Iv : World → (Nat → Prop) → α → Prop
  off : ∀ {S O : Nat → Prop} {w w' : World} {a : α}, Iv w O a → Off S w w' → (∀ k, S k → ¬ O k) → Iv w' O a
  lt : ∀ {O : Nat → Prop} {w : World} {a : α} {k : Nat}, Iv w O a → O k → k < w.heap.size
  call : ∀ {w : World} {O : Nat → Prop} {a : α} (x : E), Iv w O a → al a = true → YieldAt Fence.wide 8 Tryz.prog l (args x) w (YdPost Iv w O (f a x))
/-- A list gone over till it is enough. -/
def foldL {α E : Type} (f : α → E → α × Bool) : α → List E → α
  | a, [] => a
  | a, x :: xs => if (f a x).2 then foldL f (f a x).1 xs else (f a x).1
/-- The sequence has come to its end. -/
def SqL {α E : Type} {args : E → Array Value} {f : α → E → α × Bool} {al : α → Bool} (Y : YdL args f al) (w : World) (Ov : Nat → Prop) (y : α) (e : Ending) (w' : World) : Prop :=
  ∃ Ov' : Nat → Prop, (∃ v, e = .returned v) ∧ Y.Iv w' Ov' y ∧ Off Ov w w' ∧ ∀ k, Ov' k → Ov k ∨ w.heap.size ≤ k
theorem off_putObj (W : World) {l : Nat} (o : Obj) : Off (· = l) W (W.putObj l o) :=
  ⟨rfl, rfl, rfl, by simp, fun i _ hn => World.putObj_heap_other hn⟩
/-- How a round's body may be left. -/
def bdPost {α : Type} (al : α → Bool) (Iv : World → (Nat → Prop) → α → Prop) (Ix : Code → World → (Nat → Prop) → α → Prop) (O1 : Nat → Prop) (W : World) (y : α) : Exit → Act → World → Prop
  | .normal, _, W' => al y = true ∧ ∃ O' : Nat → Prop, Iv W' O' y ∧ Off O1 W W' ∧ ∀ k, O' k → O1 k ∨ W.heap.size ≤ k
  | .ret, _, W' => al y = false ∧ ∃ O' : Nat → Prop, Ix .ret W' O' y ∧ Off O1 W W' ∧ ∀ k, O' k → O1 k ∨ W.heap.size ≤ k
  | .exit id, _, W' => al y = false ∧ ∃ O' : Nat → Prop, Ix (.exit id) W' O' y ∧ Off O1 W W' ∧ ∀ k, O' k → O1 k ∨ W.heap.size ≤ k
  | .goto t, _, W' => al y = false ∧ ∃ O' : Nat → Prop, Ix (.goto t) W' O' y ∧ Off O1 W W' ∧ ∀ k, O' k → O1 k ∨ W.heap.size ≤ k
  | .panic _, _, _ => False
  | .outgrown, _, _ => False
/-- A loop's rounds. -/
structure LpAt {α : Type} (al : α → Bool) (Iv : World → (Nat → Prop) → α → Prop) (Ix : Code → World → (Nat → Prop) → α → Prop) (rec : LoopState → Option Code → Loop) (L D : Nat) (w : World) (O : Nat → Prop) (a : α) (O1 : Nat → Prop) : Prop where
  eqO : ∀ k, O k ↔ O1 k ∨ k = L ∨ k = D
  nL : ¬ O1 L
  nD : ¬ O1 D
  df : w.heap[D]? = some (.deferred (some []))
  yes : al a = true → Iv w O1 a ∧ w.heap[L]? = some (.loop (rec .ready none))
  no : al a = false → ∃ c, Ix c w O1 a ∧ w.heap[L]? = some (.loop (rec .done (some c)))
theorem heap_off {S : Nat → Prop} {w w' : World} {k : Nat} {o : Obj} (h : w.heap[k]? = some o) (ho : Off S w w') (hs : ¬ S k) : w'.heap[k]? = some o := (ho.block k (Array.getElem?_eq_some_iff.1 h).1 hs).trans h
set_option maxHeartbeats 4000000 in
theorem range_listP {α E : Type} {gf : FuncId} {lb : Array Value} {g : Operand} {ps : Array Tmp} {assign body : Code} {Q : Exit → Act → World → Prop} {a : Act} {w : World} {Ov : Nat → Prop} {args : E → Array Value}
    (hent : ∀ (args : Array Value) (w : World), (callFunc gf args).run Tryz.prog w = .ok (.enter gf args) w)
    (hg : a.eval g = .func (.func gf) #[] lb) (hps : ∀ x, ps.size = (args x).size)
    (f : α → E → α × Bool) (al : α → Bool) (hal : ∀ x e, al x = true → (f x e).2 = al (f x e).1)
    (Iv : World → (Nat → Prop) → α → Prop) (Ix : Code → World → (Nat → Prop) → α → Prop)
    (ivOff : ∀ {S O : Nat → Prop} {w w' : World} {x : α}, Iv w O x → Off S w w' → (∀ k, S k → ¬ O k) → Iv w' O x) (ivLt : ∀ {O : Nat → Prop} {w : World} {x : α} {k : Nat}, Iv w O x → O k → k < w.heap.size)
    (ixOff : ∀ {c : Code} {S O : Nat → Prop} {w w' : World} {x : α}, Ix c w O x → Off S w w' → (∀ k, S k → ¬ O k) → Ix c w' O x) (ixLt : ∀ {c : Code} {O : Nat → Prop} {w : World} {x : α} {k : Nat}, Ix c w O x → O k → k < w.heap.size)
    (a₁ : E → World → Act) (Rel : E → World → World → Prop) (x0 : α) (hx0 : al x0 = true) (Rr : α → Prop) (hi : Iv w Ov x0)
    (hiter : ∀ (Y : YdL args f al) (W1 : World) (O1 : Nat → Prop), Below w.heap.size w W1 → Y.Iv W1 O1 x0 → (∀ k, O1 k → Ov k ∨ w.heap.size ≤ k) → Calls Tryz.prog gf (#[.func (.yield Y.l) #[] #[]] ++ lb) W1 fun e w' => ∃ y, Rr y ∧ SqL Y W1 O1 y e w')
    (hassign : ∀ (l : Nat) (x : E) (W : World) (K : Act → World → Prop), (∀ W', Below W.heap.size W W' → Rel x W W' → K (a₁ x W) W') →
      assign.wpIn (Fence.wide.inRound l) 8 Tryz.prog (Exit.then K (fun _ _ _ => False)) { tmps := (ps.zip (args x)).foldl (fun t (p, v) => t.setIfInBounds p v) a.tmps, defers := [] } W)
    (hbody : ∀ (l : Nat) (x : α) (e : E) (W0 W' W : World) (O1 : Nat → Prop), Iv W O1 x → al x = true → Below W0.heap.size W0 W' → Rel e W0 W' → Off (· = l) W' W → l < W0.heap.size → (∀ k, O1 k → k < W0.heap.size) → body.wpIn (Fence.wide.inRound l) 8 Tryz.prog (bdPost al Iv Ix O1 W (f x e).1) (a₁ e W0) W)
    (hend : ∀ (D : Nat) (W : World) (O1 : Nat → Prop) (y : α), Rr y → w.heap.size ≤ D → W.heap[D]? = some (.deferred (some [])) → Off Ov w W → (∀ k, O1 k → Ov k ∨ w.heap.size ≤ k) →
      (al y = true → Iv W O1 y → Q .normal { a with defers := { target := .collected D, args := #[] } :: a.defers } W) ∧
      (al y = false → ∀ c, Ix c W O1 y → c.wpIn Fence.wide 9 Tryz.prog Q { a with defers := { target := .collected D, args := #[] } :: a.defers } W)) :
    (Code.rangeFunc g ps assign body).wpIn Fence.wide 9 Tryz.prog Q a w := by
  refine wpIn_rangeFunc ?_
  intro fn hfn
  obtain ⟨rec, hrec⟩ : ∃ rec : LoopState → Option Code → Loop, rec = fun st pe => { state := st, pending := pe, fn, tmps := a.tmps, params := ps, assign, body, defers := w.heap.size } := ⟨_, rfl⟩
  obtain ⟨W1, hW1⟩ : ∃ W1, (w.alloc (.deferred (some []))).alloc (.loop (rec .ready none)) = W1 := ⟨_, rfl⟩
  have hL1 : W1.heap[w.heap.size + 1]? = some (.loop (rec .ready none)) := by
    rw [← hW1]; have := World.alloc_heap_new (w.alloc (.deferred (some []))) (.loop (rec .ready none)); rwa [World.size_alloc] at this
  have hK1 : W1.heap[w.heap.size]? = some (.deferred (some [])) := by
    rw [← hW1]; exact (Below.heap_alloc _ _ _ (by simp)).trans (World.alloc_heap_new w _)
  have hb1 : Below w.heap.size w W1 := by
    rw [← hW1]; exact ((Below.refl _ w).alloc (Nat.le_refl _) _).alloc (by simp) _
  obtain ⟨L, hL⟩ : ∃ L, w.heap.size + 1 = L := ⟨_, rfl⟩
  obtain ⟨D, hD⟩ : ∃ D, w.heap.size = D := ⟨_, rfl⟩
  have hVlt : ∀ k, Ov k → k < w.heap.size := fun k hk => ivLt hi hk
  let Y : YdL args f al := {
    l := L
    Iv := fun w O x => ∃ O1, LpAt al Iv Ix rec L D w O x O1
    off := fun {S O w w' x} h ho hs => by
      obtain ⟨O1, k⟩ := h
      have hs1 : ∀ k', S k' → ¬ O1 k' := fun k' e e2 => hs k' e ((k.eqO k').2 (.inl e2))
      exact ⟨O1, k.eqO, k.nL, k.nD, heap_off k.df ho (fun e => hs D e ((k.eqO D).2 (.inr (.inr rfl)))), fun e => ⟨ivOff (k.yes e).1 ho hs1, heap_off (k.yes e).2 ho (fun e => hs L e ((k.eqO L).2 (.inr (.inl rfl))))⟩, fun e => by
        obtain ⟨c, i1, i2⟩ := k.no e
        exact ⟨c, ixOff i1 ho hs1, heap_off i2 ho (fun e => hs L e ((k.eqO L).2 (.inr (.inl rfl))))⟩⟩
    lt := fun {O w x k} h hk => by
      obtain ⟨O1, hh⟩ := h
      rcases (hh.eqO k).1 hk with e | e | e
      · cases hx : al x with
        | true => exact ivLt (hh.yes hx).1 e
        | false => obtain ⟨c, i1, _⟩ := hh.no hx; exact ixLt i1 e
      · rw [e]
        cases hx : al x with
        | true => exact (Array.getElem?_eq_some_iff.1 (hh.yes hx).2).1
        | false => obtain ⟨c, _, i2⟩ := hh.no hx; exact (Array.getElem?_eq_some_iff.1 i2).1
      · rw [e]; exact (Array.getElem?_eq_some_iff.1 hh.df).1
    call := fun {W O x} ex h hx => by
      obtain ⟨O1, hh⟩ := h
      obtain ⟨hiv, hl⟩ := hh.yes hx
      have hy := run_yield (P := Tryz.prog) (args := args ex) hl (by rw [hrec]; exact (hps ex).symm)
      rw [hrec] at hy
      refine ⟨fn, _, assign, body, hy, roundIn_of_wpIn hfn (hassign _ ex W _ (fun Wn hbn hrel => ?_))⟩
      clear hy
      have hln := heap_off hl (Off.of_below (S := fun _ => False) hbn) id
      refine ⟨_, run_beginRound hln (by rw [hrec]), ?_⟩
      have hlt : L < W.heap.size := (Array.getElem?_eq_some_iff.1 hl).1
      have hltn : L < Wn.heap.size := (Array.getElem?_eq_some_iff.1 hln).1
      have hbusy := off_putObj Wn (l := L) (.loop { rec .ready none with state := .busy })
      have hl2 : (Wn.putObj L (.loop { rec .ready none with state := .busy })).heap[L]? = some (.loop { rec .ready none with state := .busy }) := World.putObj_heap_same hltn
      have hivn := ivOff hiv (Off.of_below (S := fun _ => False) hbn) (fun _ => False.elim)
      have hdn := heap_off hh.df (Off.of_below (S := fun _ => False) hbn) id
      have hb2 := hbody L x ex W Wn _ O1 (ivOff hivn hbusy (fun k e e2 => hh.nL (by rw [← e]; exact e2))) hx hbn hrel hbusy hlt (fun k hk => ivLt hiv hk)
      have hLD : L ≠ D := by omega
      have hd2 : (Wn.putObj L (.loop { rec .ready none with state := .busy })).heap[D]? = some (.deferred (some [])) := heap_off hdn hbusy (fun e => hLD e.symm)
      have hsz2 : W.heap.size ≤ (Wn.putObj L (.loop { rec .ready none with state := .busy })).heap.size := by have := hbn.size; simp; omega
      have hoffn : Off (· = L) W (Wn.putObj L (.loop { rec .ready none with state := .busy })) := ((Off.of_below hbn).mono (fun _ => False.elim)).trans hbusy
      generalize Wn.putObj L (.loop { rec .ready none with state := .busy }) = Wb at *
      refine wpIn_mono hb2 ?_
      have hal2 := hal x ex hx
      generalize f x ex = y at *
      have fin : ∀ (jump : Option Code) (W3 : World), Off O1 Wb W3 →
          (Instr.endRound L jump).run Tryz.prog W3 = .ok (.bool jump.isNone) (W3.putObj L (.loop (rec (if jump.isNone then .ready else .done) jump))) ∧
          (W3.putObj L (.loop (rec (if jump.isNone then .ready else .done) jump))).heap[L]? = some (.loop (rec (if jump.isNone then .ready else .done) jump)) ∧
          (W3.putObj L (.loop (rec (if jump.isNone then .ready else .done) jump))).heap[D]? = some (.deferred (some [])) ∧ Off (· = L) W3 (W3.putObj L (.loop (rec (if jump.isNone then .ready else .done) jump))) := fun jump W3 ho3 => by
        have hl3 := heap_off hl2 ho3 hh.nL
        have := run_endRound (P := Tryz.prog) jump hl3
        rw [hrec] at this ⊢
        exact ⟨this, World.putObj_heap_same (Array.getElem?_eq_some_iff.1 hl3).1, heap_off (heap_off hd2 ho3 hh.nD) (off_putObj W3 _) (fun e => hLD e.symm), off_putObj W3 _⟩
      have hoff : ∀ {W3 W4 : World}, Off O1 Wb W3 → Off (· = L) W3 W4 → Off O W W4 := fun h3 h4 =>
        ((hoffn.mono (fun k e => by rw [e]; exact (hh.eqO L).2 (.inr (.inl rfl)))).trans (h3.mono fun k e => (hh.eqO k).2 (.inl e))).trans (h4.mono (fun k e => by rw [e]; exact (hh.eqO L).2 (.inr (.inl rfl))))
      have hgrow : ∀ {O' : Nat → Prop}, (∀ k, O' k → O1 k ∨ Wb.heap.size ≤ k) → ¬ O' L ∧ ¬ O' D ∧ ∀ k, (O' k ∨ k = L ∨ k = D) → O k ∨ W.heap.size ≤ k := fun hO' =>
        ⟨fun e => (hO' L e).elim hh.nL (fun e => by omega), fun e => (hO' D e).elim hh.nD (fun e => by have := (Array.getElem?_eq_some_iff.1 hh.df).1; omega), fun k e => by
          rcases e with e | e
          · exact (hO' k e).imp (fun e => (hh.eqO k).2 (.inl e)) (fun e => by omega)
          · exact .inl ((hh.eqO k).2 (.inr e))⟩
      have stop : ∀ (c : Code) (W3 : World) (O' : Nat → Prop), al y.1 = false → Ix c W3 O' y.1 → Off O1 Wb W3 → (∀ k, O' k → O1 k ∨ Wb.heap.size ≤ k) → ∃ v w', (Instr.endRound L (some c)).run Tryz.prog W3 = .ok v w' ∧ YdPost (fun w O x => ∃ O1, LpAt al Iv Ix rec L D w O x O1) W O y (.returned v) w' := fun c W3 O' hf hix ho3 hO' => by
        obtain ⟨e1, e2, e3, e4⟩ := fin (some c) W3 ho3
        obtain ⟨n1, n2, n3⟩ := hgrow hO'
        refine ⟨_, _, e1, fun k => O' k ∨ k = L ∨ k = D, by rw [hal2, hf]; rfl, ⟨O', fun k => Iff.rfl, n1, n2, e3, (fun e => by rw [hf] at e; cases e), fun _ => ⟨c, ixOff hix e4 (fun k e e2 => n1 (by rw [← e]; exact e2)), e2⟩⟩, hoff ho3 e4, n3⟩
      rintro e a3 W3 hp
      cases e with
      | normal =>
        obtain ⟨hf, O', hix, ho3, hO'⟩ := hp
        obtain ⟨e1, e2, e3, e4⟩ := fin none W3 ho3
        obtain ⟨n1, n2, n3⟩ := hgrow hO'
        exact ⟨_, _, e1, fun k => O' k ∨ k = L ∨ k = D, by rw [hal2, hf]; rfl, ⟨O', fun k => Iff.rfl, n1, n2, e3, fun _ => ⟨ivOff hix e4 (fun k e e2 => n1 (by rw [← e]; exact e2)), e2⟩, (fun e => by rw [hf] at e; cases e)⟩, hoff ho3 e4, n3⟩
      | ret => obtain ⟨hf, O', hix, ho3, hO'⟩ := hp; exact stop .ret W3 O' hf hix ho3 hO'
      | exit id => obtain ⟨hf, O', hix, ho3, hO'⟩ := hp; exact stop (.exit id) W3 O' hf hix ho3 hO'
      | goto t => obtain ⟨hf, O', hix, ho3, hO'⟩ := hp; exact stop (.goto t) W3 O' hf hix ho3 hO'
      | panic ch => exact hp.elim
      | outgrown => exact hp.elim }
  refine ⟨L, [{ target := .collected w.heap.size, args := #[] }], W1, { target := .fn (.func gf) lb, args := #[.func (.yield L) #[] #[]] }, W1, gf,
    #[.func (.yield L) #[] #[]] ++ lb, W1, ?_, ?_, ?_, ?_, fun _ => by omega, ?_⟩
  · rw [← hW1, hrec, ← hL]; exact run_enterLoop_outer _ _ _ _ _
  · simp only [resolve, hg]
    simp [go_sem]
  · intro f' hf'; trivial
  · simp [invoke, go_sem, hent]
  · have hivY : Y.Iv W1 (fun k => Ov k ∨ k = L ∨ k = D) x0 := ⟨Ov, fun k => Iff.rfl, fun e => by have := hVlt _ e; omega, fun e => by have := hVlt _ e; omega, by rw [← hD]; exact hK1, fun _ => ⟨ivOff hi (Off.of_below (S := fun _ => False) hb1) (fun _ => False.elim), by rw [← hL]; exact hL1⟩, fun e => by rw [hx0] at e; cases e⟩
    have hsq := hiter Y W1 (fun k => Ov k ∨ k = L ∨ k = D) hb1 hivY (fun k e => by
      rcases e with e | e | e
      · exact .inl e
      · exact .inr (by omega)
      · exact .inr (by omega))
    refine (callsIn_wide.2 hsq).mono ?_
    rintro e W2 ⟨y, hy, Ov', ⟨v, rfl⟩, ⟨O1, hh⟩, hof, hO'⟩
    have hofw : Off Ov w W2 := ((Off.of_below hb1).mono (fun _ => False.elim)).late hof fun i hl hi => by
      rcases hi with e | e | e
      · exact e
      · omega
      · omega
    have hO1 : ∀ k, O1 k → Ov k ∨ w.heap.size ≤ k := fun k e => by
      have := hb1.size
      rcases hO' k ((hh.eqO k).2 (.inl e)) with (e2 | e2 | e2) | e2
      · exact .inl e2
      · exact .inr (by omega)
      · exact .inr (by omega)
      · exact .inr (by omega)
    have hLD : L ≠ D := by omega
    have endL : ∀ (st : LoopState) (pe : Option Code), W2.heap[L]? = some (.loop (rec st pe)) → st ≠ .busy → ∃ W3, (Instr.endLoop L).run Tryz.prog W2 = .ok pe W3 ∧ Off (· = L) W2 W3 := fun st pe hl hst => by
      have := run_endLoop (P := Tryz.prog) hl (by rw [hrec]; exact hst)
      rw [hrec] at this
      exact ⟨_, this, off_putObj W2 _⟩
    cases hx : al y with
    | true =>
      obtain ⟨i1, i2⟩ := hh.yes hx
      obtain ⟨W3, e1, e2⟩ := endL _ _ i2 (by simp)
      refine ⟨none, W3, e1, ?_⟩
      rw [hD]
      exact (hend D W3 O1 y hy (by omega) (heap_off hh.df e2 (fun e => hLD e.symm)) (hofw.late e2 fun i hl e => by omega) hO1).1 hx (ivOff i1 e2 (fun k e e3 => hh.nL (by rw [← e]; exact e3)))
    | false =>
      obtain ⟨c, i1, i2⟩ := hh.no hx
      obtain ⟨W3, e1, e2⟩ := endL _ _ i2 (by simp)
      refine ⟨some c, W3, e1, ?_⟩
      rw [hD]
      exact (hend D W3 O1 y hy (by omega) (heap_off hh.df e2 (fun e => hLD e.symm)) (hofw.late e2 fun i hl e => by omega) hO1).2 hx c (ixOff i1 e2 (fun k e e3 => hh.nL (by rw [← e]; exact e3)))
theorem range_list {α E : Type} {gf : FuncId} {lb : Array Value} {g : Operand} {ps : Array Tmp} {assign body : Code} {Q : Exit → Act → World → Prop} {a : Act} {w : World} {Ov : Nat → Prop} {args : E → Array Value}
    (hent : ∀ (args : Array Value) (w : World), (callFunc gf args).run Tryz.prog w = .ok (.enter gf args) w)
    (hg : a.eval g = .func (.func gf) #[] lb) (hps : ∀ x, ps.size = (args x).size)
    (f : α → E → α × Bool) (al : α → Bool) (hal : ∀ x e, al x = true → (f x e).2 = al (f x e).1)
    (Iv : World → (Nat → Prop) → α → Prop) (Ix : Code → World → (Nat → Prop) → α → Prop)
    (ivOff : ∀ {S O : Nat → Prop} {w w' : World} {x : α}, Iv w O x → Off S w w' → (∀ k, S k → ¬ O k) → Iv w' O x) (ivLt : ∀ {O : Nat → Prop} {w : World} {x : α} {k : Nat}, Iv w O x → O k → k < w.heap.size)
    (ixOff : ∀ {c : Code} {S O : Nat → Prop} {w w' : World} {x : α}, Ix c w O x → Off S w w' → (∀ k, S k → ¬ O k) → Ix c w' O x) (ixLt : ∀ {c : Code} {O : Nat → Prop} {w : World} {x : α} {k : Nat}, Ix c w O x → O k → k < w.heap.size)
    (a₁ : E → World → Act) (Rel : E → World → World → Prop) (x0 : α) (hx0 : al x0 = true) (xs : List E) (hi : Iv w Ov x0)
    (hiter : ∀ (Y : YdL args f al) (W1 : World) (O1 : Nat → Prop), Below w.heap.size w W1 → Y.Iv W1 O1 x0 → (∀ k, O1 k → Ov k ∨ w.heap.size ≤ k) → Calls Tryz.prog gf (#[.func (.yield Y.l) #[] #[]] ++ lb) W1 (SqL Y W1 O1 (foldL f x0 xs)))
    (hassign : ∀ (l : Nat) (x : E) (W : World) (K : Act → World → Prop), (∀ W', Below W.heap.size W W' → Rel x W W' → K (a₁ x W) W') →
      assign.wpIn (Fence.wide.inRound l) 8 Tryz.prog (Exit.then K (fun _ _ _ => False)) { tmps := (ps.zip (args x)).foldl (fun t (p, v) => t.setIfInBounds p v) a.tmps, defers := [] } W)
    (hbody : ∀ (l : Nat) (x : α) (e : E) (W0 W' W : World) (O1 : Nat → Prop), Iv W O1 x → al x = true → Below W0.heap.size W0 W' → Rel e W0 W' → Off (· = l) W' W → l < W0.heap.size → (∀ k, O1 k → k < W0.heap.size) → body.wpIn (Fence.wide.inRound l) 8 Tryz.prog (bdPost al Iv Ix O1 W (f x e).1) (a₁ e W0) W)
    (hend : ∀ (D : Nat) (W : World) (O1 : Nat → Prop) (y : α), y = foldL f x0 xs → w.heap.size ≤ D → W.heap[D]? = some (.deferred (some [])) → Off Ov w W → (∀ k, O1 k → Ov k ∨ w.heap.size ≤ k) →
      (al y = true → Iv W O1 y → Q .normal { a with defers := { target := .collected D, args := #[] } :: a.defers } W) ∧
      (al y = false → ∀ c, Ix c W O1 y → c.wpIn Fence.wide 9 Tryz.prog Q { a with defers := { target := .collected D, args := #[] } :: a.defers } W)) :
    (Code.rangeFunc g ps assign body).wpIn Fence.wide 9 Tryz.prog Q a w :=
  range_listP hent hg hps f al hal Iv Ix ivOff ivLt ixOff ixLt a₁ Rel x0 hx0 (fun y => y = foldL f x0 xs) hi (fun Y W1 O1 h1 h2 h3 => (hiter Y W1 O1 h1 h2 h3).mono fun e w' h => ⟨_, rfl, h⟩) hassign hbody hend
end Go.Proofs.YtlhfjaagkgengaaGreat
namespace Go.Proofs.YtlhfjaagkgengaaGreat
open Go.RowKit
set_option linter.unusedVariables false
set_option linter.unusedSimpArgs false

structure Rg where
  lo : Int
  hi : Int
  pr : Int
deriving DecidableEq
def Rg.v (x : Rg) : Value := .agg #[.int .i64 x.lo, .int .i64 x.hi, .int .i64 x.pr]
def Rg.In (x : Rg) : Prop := (-9223372036854775808 ≤ x.lo ∧ x.lo ≤ 9223372036854775807) ∧ (-9223372036854775808 ≤ x.hi ∧ x.hi ≤ 9223372036854775807) ∧ -9223372036854775808 ≤ x.pr ∧ x.pr ≤ 9223372036854775807
/-- A row of regions, to be read. -/
structure RgAt (w : World) (A : Option Addr) (L : List Rg) : Prop where
  at_ : 0 < L.length → ∃ g o, A = some ⟨g, o, none⟩ ∧ g < w.heap.size ∧ ∀ (i : Nat) (x : Rg), L[i]? = some x → w.cell? ⟨g, o + i * 3, none⟩ = some (.int .i64 x.lo) ∧ w.cell? ⟨g, o + i * 3 + 1, none⟩ = some (.int .i64 x.hi) ∧ w.cell? ⟨g, o + i * 3 + 2, none⟩ = some (.int .i64 x.pr)
/-- The block that a row lies in. -/
def rgO (A : Option Addr) (n : Nat) (k : Nat) : Prop := 0 < n ∧ ∃ o, A = some ⟨k, o, none⟩
section
variable {w w' : World} {A : Option Addr} {L : List Rg} {S : Nat → Prop}
theorem RgAt.nil (w : World) (A : Option Addr) : RgAt w A [] := ⟨fun h => by simp at h⟩
theorem RgAt.off (h : RgAt w A L) (ho : Off S w w') (hs : ∀ k, S k → ¬ rgO A L.length k) : RgAt w' A L := ⟨fun hp => by
  obtain ⟨g, o, rfl, hg, hc⟩ := h.at_ hp
  have hng : ¬ S g := fun e => hs g e ⟨hp, o, rfl⟩
  exact ⟨g, o, rfl, Nat.lt_of_lt_of_le hg ho.size, fun i x hx => by
    obtain ⟨c0, c1, c2⟩ := hc i x hx
    exact ⟨(ho.cell (p := ⟨g, _, none⟩) hg hng).trans c0, (ho.cell (p := ⟨g, _, none⟩) hg hng).trans c1, (ho.cell (p := ⟨g, _, none⟩) hg hng).trans c2⟩⟩⟩
theorem RgAt.up (h : RgAt w A L) (hb : Below w.heap.size w w') : RgAt w' A L := h.off (S := fun _ => False) (Off.of_below hb) (fun _ => False.elim)
theorem RgAt.lt (h : RgAt w A L) {k : Nat} (hk : rgO A L.length k) : k < w.heap.size := by
  obtain ⟨hp, o, rfl⟩ := hk
  obtain ⟨g, o', e, hg, _⟩ := h.at_ hp
  cases e
  exact hg
end
def protB (p : Int) : Bool := decide (0 ≤ p ∧ p ≤ 3)
def rightB (lo hi p : Int) : Bool := decide (0 ≤ lo ∧ lo < hi) && protB p
theorem prot_any (w : World) (p : Int) : Calls Tryz.prog 158 #[.int .i64 p] w fun e w' => e = .returned (.bool (protB p)) ∧ w' = w := by
  unfold protB
  by_cases h1 : 0 ≤ p
  · by_cases h2 : p ≤ 3
    · rw [show decide (0 ≤ p ∧ p ≤ 3) = true from decide_eq_true ⟨h1, h2⟩]
      go_enter Tryz.func158, Tryz.ntmps158
      go_wp2
      go_ret
      exact ⟨by simp [h1, h2], rfl⟩
    · rw [show decide (0 ≤ p ∧ p ≤ 3) = false from decide_eq_false fun h => h2 h.2]
      go_enter Tryz.func158, Tryz.ntmps158
      go_wp2
      go_ret
      exact ⟨by simp [h1, h2], rfl⟩
  · rw [show decide (0 ≤ p ∧ p ≤ 3) = false from decide_eq_false fun h => h1 h.1]
    go_enter Tryz.func158, Tryz.ntmps158
    go_wp2
    go_ret
    exact ⟨rfl, rfl⟩
theorem rright_any (w : World) (lo hi p : Int) : Calls Tryz.prog 143 #[.int .i64 lo, .int .i64 hi, .int .i64 p] w fun e w' => e = .returned (.bool (rightB lo hi p)) ∧ w' = w := by
  obtain ⟨z, hz⟩ : ∃ z, protB p = z := ⟨_, rfl⟩
  have HP : Hid (Calls Tryz.prog 158 #[.int .i64 p] w fun e w' => e = .returned (.bool z) ∧ w' = w) := Lib.hid (by rw [← hz]; exact prot_any w p)
  unfold rightB
  rw [hz]
  clear hz
  by_cases h1 : 0 ≤ lo
  · by_cases h2 : lo < hi
    · rw [show decide (0 ≤ lo ∧ lo < hi) = true from decide_eq_true ⟨h1, h2⟩]
      go_enter Tryz.func143, Tryz.ntmps143
      go_wp2_with (go_at_call 158; refine HP.out.mono ?_; rintro e w' ⟨rfl, rfl⟩)
      go_ret
      exact ⟨by simp, rfl⟩
    · rw [show decide (0 ≤ lo ∧ lo < hi) = false from decide_eq_false fun h => h2 h.2]
      go_enter Tryz.func143, Tryz.ntmps143
      go_wp2
      go_ret
      exact ⟨rfl, rfl⟩
  · rw [show decide (0 ≤ lo ∧ lo < hi) = false from decide_eq_false fun h => h1 h.1]
    go_enter Tryz.func143, Tryz.ntmps143
    go_wp2
    go_ret
    exact ⟨rfl, rfl⟩
/-! ### pieces -/
def maxI (a b : Int) : Int := if a < b then b else a
def minI (a b : Int) : Int := if b < a then b else a
def pieceR (lo hi : Int) (x : Rg) : Rg := ⟨maxI x.lo lo, minI x.hi hi, x.pr⟩
def piecesF (L : List Rg) (lo hi : Int) : List Rg := (L.map (pieceR lo hi)).filter fun x => decide (x.lo < x.hi)
end Go.Proofs.YtlhfjaagkgengaaGreat
namespace Go.Proofs.YtlhfjaagkgengaaGreat
open Go.RowKit
set_option linter.unusedVariables false
set_option linter.unusedSimpArgs false

theorem wpList_append_run {P : Program} {ops : Array Oper} {rest : List Oper} {o : Oper} {a : Act} {w w' : World} {Q : Exit → Act → World → Prop} (hgd : o.guard = none) (s x : Operand) (t : TypeId) (ho : o.op = .call { callee := .builtin .append, args := #[s, x], argTypes := #[t, t] })
    (v xv : Value) (hs : a.eval s = v) (hx : a.eval x = xv) {v' : Value} (hr : (Builtin.append_ #[t, t] o.type #[v, xv]).run P w = .ok v' w') (h : wpList P ops Q rest (a.put o.dst v') w') : wpList P ops Q (o :: rest) a w := by
  refine wpList_plain hgd fun K hK => ?_
  unfold Oper.wp execOp
  simp only [ho, resolve, invoke, builtin, Sem.run_bind, Sem.run_pure, Result.andThen_ok, List.map_toArray, List.map_cons, List.map_nil, hs, hx, hr]
  exact hK _ _ h
def Rg.cells (x : Rg) : List Value := [.int .i64 x.lo, .int .i64 x.hi, .int .i64 x.pr]
def rgC (L : List Rg) : List Value := L.flatMap Rg.cells
theorem rgC_len (L : List Rg) : (rgC L).length = L.length * 3 := by
  induction L with
  | nil => rfl
  | cons x L ih => simp only [rgC, List.flatMap_cons, List.length_append, List.length_cons, Rg.cells, List.length_nil] at ih ⊢; omega
theorem rgC_app (L M : List Rg) : rgC (L ++ M) = rgC L ++ rgC M := by simp [rgC]
theorem rgC_at : ∀ (L : List Rg) (i : Nat) (x : Rg), L[i]? = some x → (rgC L)[i * 3]? = some (.int .i64 x.lo) ∧ (rgC L)[i * 3 + 1]? = some (.int .i64 x.hi) ∧ (rgC L)[i * 3 + 2]? = some (.int .i64 x.pr)
  | [], i, x, h => by simp at h
  | y :: L, 0, x, h => by
    simp at h
    subst h
    exact ⟨rfl, rfl, rfl⟩
  | y :: L, i + 1, x, h => by
    rw [List.getElem?_cons_succ] at h
    have := rgC_at L i x h
    rw [show (i + 1) * 3 = i * 3 + 3 by omega, show i * 3 + 3 + 1 = i * 3 + 1 + 3 by omega, show i * 3 + 3 + 2 = i * 3 + 2 + 3 by omega]
    simp only [rgC, List.flatMap_cons, Rg.cells, List.cons_append, List.nil_append, List.getElem?_cons_succ] at this ⊢
    exact this
theorem rgC_inv (L : List Rg) (j : Nat) (u : Value) (h : (rgC L)[j]? = some u) : ∃ x, L[j / 3]? = some x ∧ x.cells[j % 3]? = some u := by
  have hj : j < L.length * 3 := by rw [← rgC_len]; exact (List.getElem?_eq_some_iff.1 h).1
  obtain ⟨x, hx⟩ : ∃ x, L[j / 3]? = some x := ⟨_, List.getElem?_eq_getElem (by omega)⟩
  refine ⟨x, hx, ?_⟩
  obtain ⟨h0, h1, h2⟩ := rgC_at L _ x hx
  rcases (show j % 3 = 0 ∨ j % 3 = 1 ∨ j % 3 = 2 by omega) with e | e | e
  · rw [show j / 3 * 3 = j by omega, h] at h0; rw [e, h0]; rfl
  · rw [show j / 3 * 3 + 1 = j by omega, h] at h1; rw [e, h1]; rfl
  · rw [show j / 3 * 3 + 2 = j by omega, h] at h2; rw [e, h2]; rfl
theorem rgC_one (L : List Rg) : ∀ u ∈ rgC L, u.oneCell' = true := fun u hu => by
  obtain ⟨x, _, hx⟩ := List.mem_flatMap.1 hu
  simp [Rg.cells] at hx
  rcases hx with rfl | rfl | rfl <;> rfl
theorem rg_info : (Tryz.prog.info? 62).map (fun i => (i.zero, i.size, i.bytes)) = some (some (.agg #[.int .i64 0, .int .i64 0, .int .i64 0]), 3, 24) := by kernel_rfl
/-- A row of regions that is one's own. -/
def OwG (B : Nat) (w : World) (v : Value) (L : List Rg) : Prop := w.ownsRow B 62 3 v L.length (rgC L)
section
variable {B : Nat} {w w' wa : World} {v : Value} {L M : List Rg} {S : Nat → Prop}
theorem OwG.form (h : OwG B w v L) : ∃ A c, v = .slice A L.length c ∧ L.length ≤ c := by
  rcases h.2 with ⟨rfl, h0⟩ | ⟨g, cap, cur, rfl, _, _, _, hc, _⟩
  · rw [h0]; exact ⟨none, 0, rfl, Nat.le_refl _⟩
  · exact ⟨_, cap, rfl, by omega⟩
theorem OwG.off (h : OwG B w v L) (ho : Off S w w') (hs : ∀ k, v.ownBlock = some k → ¬ S k) : OwG B w' v L := by
  refine ⟨h.1, ?_⟩
  rcases h.2 with hn | ⟨g, cap, cur, rfl, hb, hgg, rest⟩
  · exact .inl hn
  · exact .inr ⟨g, cap, cur, rfl, hb, (ho.block g (Array.getElem?_eq_some_iff.1 hgg).1 (hs g rfl)).trans hgg, rest⟩
theorem OwG.up (h : OwG B w v L) (hb : Below w.heap.size w w') : OwG B w' v L := h.off (S := fun _ => False) (Off.of_below hb) (fun _ _ => id)
theorem OwG.lt (h : OwG B w v L) {k : Nat} (hk : v.ownBlock = some k) : B ≤ k ∧ k < w.heap.size := World.ownsRow.lt h k hk
theorem OwG.rg {A : Option Addr} {n c : Nat} (h : OwG B w (.slice A n c) L) : RgAt w A L := ⟨fun hp => by
  obtain ⟨G, cap, hG, hcap, _⟩ := World.ownsRow.form h hp
  have hlt := World.ownsRow.lt h
  have hrow := h
  rw [hG] at hlt
  cases hG
  refine ⟨G, 0, rfl, (hlt G rfl).2, fun i x hx => ?_⟩
  have e : ∀ j, (⟨G, 0, none⟩ : Addr).add j = ⟨G, j, none⟩ := fun j => by unfold Addr.add; split <;> simp_all
  obtain ⟨h0, h1, h2⟩ := rgC_at L i x hx
  have c0 := World.ownsRow.cells hrow (g := G) rfl _ _ h0
  have c1 := World.ownsRow.cells hrow (g := G) rfl _ _ h1
  have c2 := World.ownsRow.cells hrow (g := G) rfl _ _ h2
  rw [e] at c0 c1 c2
  simp only [Nat.zero_add]
  exact ⟨c0, c1, c2⟩⟩
theorem OwG.own {A : Option Addr} {n c : Nat} (h : OwG B w (.slice A n c) L) {k : Nat} (hk : rgO A n k) : (Value.slice A n c).ownBlock = some k := by
  obtain ⟨hp, o, rfl⟩ := hk
  obtain ⟨A', c', e, _⟩ := h.form
  cases e
  obtain ⟨G, cap, hG, _⟩ := World.ownsRow.form h hp
  cases hG
  rfl
theorem OwG.nil (w : World) (B : Nat) : OwG B w (.slice none 0 0) [] := ⟨rfl, .inl ⟨rfl, rfl⟩⟩
/-- append of a row. -/
theorem OwG.app (h : OwG B w v L) (hBw : B ≤ w.heap.size) {a : Addr} {m c : Nat} (hm : m = M.length) (hM : RgAt w (some a) M) (hlen : L.length + M.length ≤ 1000000) (ty : TypeId) :
    ∃ A' c' w', (Builtin.append_ #[41, 41] ty #[v, .slice (some a) m c]).run Tryz.prog w = .ok (.slice A' (L ++ M).length c') w' ∧ OwG B w' (.slice A' (L ++ M).length c') (L ++ M) ∧ Off (fun k => v.ownBlock = some k) w w' ∧ ((Value.slice A' (L ++ M).length c').ownBlock = v.ownBlock ∨ (Value.slice A' (L ++ M).length c').ownBlock = some w.heap.size) := by
  subst hm
  obtain ⟨i0, hi, hz0, hz1, hz2⟩ := info_parts rg_info
  obtain ⟨v', w', hr, ho, hg, _, hat⟩ := run_append_own_at (P := Tryz.prog) w B 41 ty 62 i0 _ 3 24 Tryz.underlying41 hi hz0 hz1 hz2 rfl (by omega) v L.length (rgC L) h a M.length c (rgC M)
    (rgC_len M) (fun j u hj => by
      obtain ⟨x, hx, hxu⟩ := rgC_inv M j u hj
      have hp : 0 < M.length := by have := (List.getElem?_eq_some_iff.1 hx).1; omega
      obtain ⟨g, o, e, hg, hc⟩ := hM.at_ hp
      cases e
      have ea : ∀ j, (⟨g, o, none⟩ : Addr).add j = ⟨g, o + j, none⟩ := fun j => by unfold Addr.add; split <;> simp_all
      rw [ea]
      obtain ⟨c0, c1, c2⟩ := hc _ x hx
      rcases (show j % 3 = 0 ∨ j % 3 = 1 ∨ j % 3 = 2 by omega) with e | e | e
      · rw [e] at hxu
        rw [show o + j = o + j / 3 * 3 by omega, c0]
        simp [Rg.cells] at hxu; rw [hxu]
      · rw [e] at hxu
        rw [show o + j = o + j / 3 * 3 + 1 by omega, c1]
        simp [Rg.cells] at hxu; rw [hxu]
      · rw [e] at hxu
        rw [show o + j = o + j / 3 * 3 + 2 by omega, c2]
        simp [Rg.cells] at hxu; rw [hxu]) (rgC_one M) (by unfold maxLen; omega) (by omega) hBw
  have ho' : OwG B w' v' (L ++ M) := by
    unfold OwG
    rw [List.length_append, rgC_app]
    exact ho
  obtain ⟨A', c', rfl, _⟩ := ho'.form
  exact ⟨A', c', w', hr, ho', grown_off hg, hat⟩
end
/-- The row of regions in new memory. -/
def FrG (w0 w : World) (v : Value) (L : List Rg) : Prop := OwG w0.heap.size w v L ∧ Below w0.heap.size w0 w
theorem FrG.lit (w : World) (t : TypeId) : OwG w.heap.size (w.alloc (.cells #[] 62)) (.slice (some ⟨w.heap.size, 0, none⟩) 0 0) [] :=
  ⟨rfl, .inr ⟨w.heap.size, 0, #[], rfl, Nat.le_refl _, by rw [World.alloc_heap_new], by simp [rgC], by simp, by simp, by simp [rgC]⟩⟩
set_option maxRecDepth 100000 in
set_option maxHeartbeats 1000000 in
theorem cloneG_any (w : World) {A : Option Addr} (c : Nat) {L : List Rg} (hL : RgAt w A L) (hn : L.length ≤ 100000) :
    Calls Tryz.prog 78 #[.slice A L.length c] w fun e w' => ∃ A' c', e = .returned (.slice A' L.length c') ∧ OwG w.heap.size w' (.slice A' L.length c') L ∧ Below w.heap.size w w' := by
  have heq := fun (w : World) (a : Option Addr) (n c : Nat) => Lib.run_eql_slice_nil (P := Tryz.prog) w 41 62 a n c 0 0 Tryz.underlying41
  have HL := Lib.hid hL
  cases A with
  | none =>
    obtain rfl : L = [] := by
      cases L with
      | nil => rfl
      | cons x L => obtain ⟨g, o, e, _⟩ := hL.at_ (by simp); cases e
    clear hL HL
    go_enter Tryz.func78, Tryz.ntmps78
    go_wp2
    go_ret
    exact ⟨_, _, rfl, OwG.nil _ _, Below.refl _ _⟩
  | some a =>
    obtain ⟨w1, hw1⟩ : ∃ w1, w1 = w.alloc (.cells #[] 62) := ⟨_, rfl⟩
    have hb : Below w.heap.size w w1 := by rw [hw1]; exact (Below.refl _ _).alloc (Nat.le_refl _) _
    have h1 : OwG w.heap.size w1 (.slice (some ⟨w.heap.size, 0, none⟩) 0 0) [] := by rw [hw1]; exact FrG.lit w 0
    obtain ⟨A', c', w2, hr, ho, hof, hat⟩ := h1.app (M := L) (m := L.length) (c := c) hb.size rfl (hL.up hb) (by simp; omega) 41
    have hb2 : Below w.heap.size w w2 := hb.trans (hof.below (fun k e => (h1.lt e).1) hb.size)
    have HR := Lib.hid (And.intro ho hb2)
    rw [hw1] at hr
    simp only [List.nil_append] at hr HR
    clear hL hw1 hb h1 ho hof hat hb2
    go_enter Tryz.func78, Tryz.ntmps78
    go_wp2_with (at_builtin; go_must (refine wpList_append_run rfl (.tmp 5) (.tmp 6) 41 rfl _ _ rfl rfl hr ?_))
    go_ret
    exact ⟨_, _, rfl, HR.out.1, HR.out.2⟩
end Go.Proofs.YtlhfjaagkgengaaGreat
namespace Go.Proofs.YtlhfjaagkgengaaGreat
open Go.RowKit
set_option linter.unusedVariables false
set_option linter.unusedSimpArgs false

theorem foldL_cons {α E : Type} (f : α → E → α × Bool) (a : α) (x : E) (xs : List E) : foldL f a (x :: xs) = if (f a x).2 then foldL f (f a x).1 xs else (f a x).1 := rfl
def Rg.args (x : Rg) : Array Value := #[x.v]
theorem pieces_cons (x : Rg) (L : List Rg) (lo hi : Int) : piecesF (x :: L) lo hi = if maxI x.lo lo < minI x.hi hi then pieceR lo hi x :: piecesF L lo hi else piecesF L lo hi := by
  unfold piecesF
  rw [List.map_cons, List.filter_cons]
  by_cases h : maxI x.lo lo < minI x.hi hi
  · rw [if_pos (show decide ((pieceR lo hi x).lo < (pieceR lo hi x).hi) = true from decide_eq_true h), if_pos h]
  · rw [if_neg (show ¬ decide ((pieceR lo hi x).lo < (pieceR lo hi x).hi) = true from fun e => h (of_decide_eq_true e)), if_neg h]
theorem wpIn_forget {F : Fence} {n : Nat} {P : Program} {c : Code} {Q : Exit → Act → World → Prop} {a : Act} {w : World} (R : World → Prop) (h : R w) (k : ∀ W, R W → c.wpIn F n P Q a W) : c.wpIn F n P Q a w := k w h
/-- What Pieces' function is asked of. -/
structure PcAt (w : World) (b : Nat) (A : Option Addr) (c : Nat) (L : List Rg) (lo hi : Int) : Prop where
  c0 : w.cell? ⟨b, 0, none⟩ = some (.slice A L.length c)
  c1 : w.cell? ⟨b + 1, 0, none⟩ = some (.int .i64 lo)
  c2 : w.cell? ⟨b + 2, 0, none⟩ = some (.int .i64 hi)
  row : RgAt w A L
def pcO (b : Nat) (A : Option Addr) (n : Nat) (k : Nat) : Prop := k = b ∨ k = b + 1 ∨ k = b + 2 ∨ rgO A n k
theorem PcAt.off {S : Nat → Prop} {w w' : World} {b : Nat} {A : Option Addr} {c : Nat} {L : List Rg} {lo hi : Int} (h : PcAt w b A c L lo hi) (ho : Off S w w') (hs : ∀ k, S k → ¬ pcO b A L.length k) : PcAt w' b A c L lo hi :=
  ⟨(ho.cell (p := ⟨b, 0, none⟩) (lt_of_cell h.c0) (fun e => hs _ e (.inl rfl))).trans h.c0, (ho.cell (p := ⟨b + 1, 0, none⟩) (lt_of_cell h.c1) (fun e => hs _ e (.inr (.inl rfl)))).trans h.c1, (ho.cell (p := ⟨b + 2, 0, none⟩) (lt_of_cell h.c2) (fun e => hs _ e (.inr (.inr (.inl rfl))))).trans h.c2, h.row.off ho (fun k e e2 => hs k e (.inr (.inr (.inr e2))))⟩
theorem PcAt.lt {w : World} {b : Nat} {A : Option Addr} {c : Nat} {L : List Rg} {lo hi : Int} (h : PcAt w b A c L lo hi) {k : Nat} (hk : pcO b A L.length k) : k < w.heap.size := by
  rcases hk with rfl | rfl | rfl | hk
  · exact lt_of_cell h.c0
  · exact lt_of_cell h.c1
  · exact lt_of_cell h.c2
  · exact h.row.lt hk
set_option maxRecDepth 100000 in
set_option maxHeartbeats 1000000 in
theorem pieces_any (w : World) {A : Option Addr} (c : Nat) {L : List Rg} (hL : RgAt w A L) (hn : L.length ≤ 100000) (lo hi : Int) :
    Calls Tryz.prog 144 #[.slice A L.length c, .int .i64 lo, .int .i64 hi] w fun e w' => ∃ A' c', e = .returned (.func (.func 168) #[] #[.pointer (some ⟨w.heap.size, 0, none⟩), .pointer (some ⟨w.heap.size + 1, 0, none⟩), .pointer (some ⟨w.heap.size + 2, 0, none⟩)]) ∧ PcAt w' w.heap.size A' c' L lo hi ∧ Below w.heap.size w w' ∧ w.heap.size + 3 ≤ w'.heap.size ∧ ∀ k, rgO A' L.length k → w.heap.size ≤ k := by
  have HL := Lib.hid hL
  clear hL
  have h3 : ∀ W, W = (((w.alloc (.cells #[.slice A L.length c] 41)).alloc (.cells #[.int .i64 lo] 3)).alloc (.cells #[.int .i64 hi] 3)) → W.cell? ⟨w.heap.size, 0, none⟩ = some (.slice A L.length c) ∧ W.frozen? ⟨w.heap.size, 0, none⟩ = false ∧ W.cell? ⟨w.heap.size + 1, 0, none⟩ = some (.int .i64 lo) ∧ W.cell? ⟨w.heap.size + 2, 0, none⟩ = some (.int .i64 hi) ∧ Below w.heap.size w W ∧ W.heap.size = w.heap.size + 3 := by
    rintro W rfl
    have s1 : (w.alloc (.cells #[.slice A L.length c] 41)).heap.size = w.heap.size + 1 := by simp
    have b1 : Below w.heap.size w (w.alloc (.cells #[.slice A L.length c] 41)) := (Below.refl _ _).alloc (Nat.le_refl _) _
    have c1 := alloc_at w (.slice A L.length c) 41
    generalize w.alloc (.cells #[.slice A L.length c] 41) = W1 at *
    have s2 : (W1.alloc (.cells #[.int .i64 lo] 3)).heap.size = w.heap.size + 2 := by simp [s1]
    have b2 : Below W1.heap.size W1 (W1.alloc (.cells #[.int .i64 lo] 3)) := (Below.refl _ _).alloc (Nat.le_refl _) _
    have c2 := (alloc_at W1 (.int .i64 lo) 3).1
    rw [s1] at c2
    generalize W1.alloc (.cells #[.int .i64 lo] 3) = W2 at *
    have b3 : Below W2.heap.size W2 (W2.alloc (.cells #[.int .i64 hi] 3)) := (Below.refl _ _).alloc (Nat.le_refl _) _
    have c3 := (alloc_at W2 (.int .i64 hi) 3).1
    rw [s2] at c3
    have k1 := (b2.cell (p := ⟨w.heap.size, 0, none⟩) (by show w.heap.size < W1.heap.size; omega)).trans c1.1
    have f1 := (b2.frozen (p := ⟨w.heap.size, 0, none⟩) (by show w.heap.size < W1.heap.size; omega)).trans c1.2
    exact ⟨(b3.cell (p := ⟨w.heap.size, 0, none⟩) (by show w.heap.size < W2.heap.size; omega)).trans k1, (b3.frozen (p := ⟨w.heap.size, 0, none⟩) (by show w.heap.size < W2.heap.size; omega)).trans f1, (b3.cell (p := ⟨w.heap.size + 1, 0, none⟩) (by show w.heap.size + 1 < W2.heap.size; omega)).trans c2, c3, (b1.trans (b2.mono (by omega))).trans (b3.mono (by omega)), by simp [s2]⟩
  go_enter Tryz.func144, Tryz.ntmps144
  go_upto_region 1 with (fail)
  refine wp_forget (fun W => W.cell? ⟨w.heap.size, 0, none⟩ = some (.slice A L.length c) ∧ W.frozen? ⟨w.heap.size, 0, none⟩ = false ∧ W.cell? ⟨w.heap.size + 1, 0, none⟩ = some (.int .i64 lo) ∧ W.cell? ⟨w.heap.size + 2, 0, none⟩ = some (.int .i64 hi) ∧ Below w.heap.size w W ∧ W.heap.size = w.heap.size + 3) (h3 _ rfl) ?_
  clear h3
  rintro W ⟨c0, f0, c1, c2, hb, hs⟩
  have HB := Lib.hid hb
  have HC := Lib.hid (And.intro c1 c2)
  have l0 := lt_of_cell c0
  have HCL := Lib.hid (cloneG_any W c (HL.out.up hb) hn)
  have HS := Lib.hid hs
  clear hb c1 c2 hs
  go_upto_region 2 with (go_at_call 78; refine HCL.out.mono ?_; rintro e W1 ⟨A1, c1, rfl, how, hb1⟩; have q0 := (hb1.cell (p := ⟨w.heap.size, 0, none⟩) l0).trans c0; have g0 := (hb1.frozen (p := ⟨w.heap.size, 0, none⟩) l0).trans f0; have m0 := lt_of_cell q0; have HOW := Lib.hid how; have HB1 := Lib.hid hb1; clear how hb1)
  refine wp_forget (fun V => PcAt V w.heap.size A1 c1 L lo hi ∧ Below w.heap.size w V ∧ w.heap.size + 3 ≤ V.heap.size ∧ ∀ k, rgO A1 L.length k → w.heap.size ≤ k) ?_ ?_
  · have ho : Off (· = w.heap.size) W1 (W1.setCell ⟨w.heap.size, 0, none⟩ (.slice A1 L.length c1)) := (Off.refl (· = w.heap.size) W1).setCell (p := ⟨w.heap.size, 0, none⟩) rfl _
    have hb2 := HB.out.trans (HB1.out.mono HB.out.size)
    have hs := HS.out
    have hs2 := HB1.out.size
    refine ⟨⟨World.cell?_setCell_same _ _ _ q0, (ho.cell (p := ⟨w.heap.size + 1, 0, none⟩) (by show w.heap.size + 1 < W1.heap.size; omega) (by show ¬ w.heap.size + 1 = w.heap.size; omega)).trans ((HB1.out.cell (p := ⟨w.heap.size + 1, 0, none⟩) (by show w.heap.size + 1 < W.heap.size; omega)).trans HC.out.1),
      (ho.cell (p := ⟨w.heap.size + 2, 0, none⟩) (by show w.heap.size + 2 < W1.heap.size; omega) (by show ¬ w.heap.size + 2 = w.heap.size; omega)).trans ((HB1.out.cell (p := ⟨w.heap.size + 2, 0, none⟩) (by show w.heap.size + 2 < W.heap.size; omega)).trans HC.out.2),
      (HOW.out.rg).off ho (fun k e e2 => ?_)⟩, hb2.trans (ho.below (fun k e => by rw [e]; exact Nat.le_refl _) hb2.size), by simp; omega, fun k hk => ?_⟩
    · have := (HOW.out.lt (HOW.out.own e2)).1; omega
    · have := (HOW.out.lt (HOW.out.own hk)).1; omega
  clear q0 g0 m0 c0 f0 l0 HB HC HCL HOW HB1 HS
  rintro V hv
  have HVV := Lib.hid hv
  clear hv
  go_wp2
  go_ret
  exact ⟨_, _, rfl, HVV.out⟩
set_option maxRecDepth 100000 in
set_option maxHeartbeats 4000000 in
theorem pieces1_any {α : Type} {f : α → Rg → α × Bool} {al : α → Bool} (Y : YdL Rg.args f al) (hal : ∀ x e, al x = true → (f x e).2 = al (f x e).1) {w : World} {O : Nat → Prop} {x0 : α} {b c : Nat} {A : Option Addr} {L : List Rg} {lo hi : Int} (hi0 : Y.Iv w O x0) (hx0 : al x0 = true) (hp : PcAt w b A c L lo hi) (hO : ∀ k, pcO b A L.length k → ¬ O k) (hn : L.length ≤ 100000) :
    Calls Tryz.prog 168 #[.func (.yield Y.l) #[] #[], .pointer (some ⟨b, 0, none⟩), .pointer (some ⟨b + 1, 0, none⟩), .pointer (some ⟨b + 2, 0, none⟩)] w (SqL Y w O (foldL f x0 (piecesF L lo hi))) := by
  have HP := Lib.hid hp
  have HO := Lib.hid hO
  have HI := Lib.hid hi0
  have c0 := hp.c0
  have l0 := lt_of_cell c0
  have HAL := Lib.hid hal
  clear hp hO hi0 hal
  refine (callsIn_wide (n := 9)).1 ?_
  refine callsIn_of_wp Tryz.func168 rfl trivial ?_ rfl
  simp only [Tryz.ntmps168, List.size_toArray, List.length_cons, List.length_nil, Nat.reduceAdd, Nat.reduceSub, Array.replicate_succ, Array.replicate_zero, List.push_toArray, List.append_toArray, List.nil_append, List.cons_append]
  gi_wp2
  gi_loopw [10] (fun i wr => ∃ (j : Nat) (O1 : Nat → Prop) (x : α), j ≤ L.length ∧ i = .int .i64 (j : Nat) ∧ Y.Iv wr O1 x ∧ al x = true ∧ PcAt wr b A c L lo hi ∧ (∀ k, pcO b A L.length k → ¬ O1 k) ∧ foldL f x0 (piecesF L lo hi) = foldL f x (piecesF (L.drop j) lo hi) ∧ Off O w wr ∧ ∀ k, O1 k → O k ∨ w.heap.size ≤ k) (fun i _ => L.length - (intOf i).toNat)
  case atStart => exact ⟨0, O, x0, by omega, rfl, HI.out, hx0, HP.out, HO.out, rfl, Off.refl _ _, fun k => .inl⟩
  case round =>
    obtain ⟨j, O1, x, hj, rfl, hiv, hx, hpc, hO1, hfold, hof, hgr⟩ := hrel
    have HPC := Lib.hid hpc
    have HIV := Lib.hid hiv
    have HO1 := Lib.hid hO1
    have HF := Lib.hid hfold
    have HOF := Lib.hid hof
    have HGR := Lib.hid hgr
    have k1 := hpc.c1
    have k2 := hpc.c2
    have l1 := lt_of_cell k1
    have l2 := lt_of_cell k2
    clear hiv hpc hO1 hfold hof hgr HP HI HO c0 l0
    by_cases hjn : j < L.length
    · obtain ⟨g, o, hA, hg, hc⟩ := HPC.out.row.at_ (by omega)
      subst hA
      obtain ⟨r, hr⟩ : ∃ r, L[j]? = some r := ⟨_, List.getElem?_eq_getElem hjn⟩
      obtain ⟨q0, q1, q2⟩ := hc j r hr
      have hjI : (j : Int) < (L.length : Int) := by omega
      have hdrop : piecesF (L.drop j) lo hi = if maxI r.lo lo < minI r.hi hi then pieceR lo hi r :: piecesF (L.drop (j + 1)) lo hi else piecesF (L.drop (j + 1)) lo hi := by
        rw [← pieces_cons]
        congr 1
        rw [List.drop_eq_getElem_cons hjn]
        congr 1
        rw [List.getElem?_eq_getElem hjn] at hr
        exact Option.some.inj hr
      have HD := Lib.hid hdrop
      clear hdrop hc hr
      obtain ⟨ra, rb, rp⟩ := r
      simp only at q0 q1 q2
      obtain ⟨p0, hp0⟩ : ∃ p, p = maxI ra lo := ⟨_, rfl⟩
      obtain ⟨p1, hp1⟩ : ∃ p, p = minI rb hi := ⟨_, rfl⟩
      simp only at HD
      rw [← hp0, ← hp1, show pieceR lo hi ⟨ra, rb, rp⟩ = ⟨p0, p1, rp⟩ by rw [hp0, hp1]; rfl] at HD
      unfold maxI at hp0
      unfold minI at hp1
      gi_upto_region 4 with (fail)
      rw [← hp0, ← hp1]
      clear hp0 hp1
      refine wpIn_forget (fun V => Below wr.heap.size wr V ∧ V.cell? ⟨wr.heap.size + 1, 0, none⟩ = some (.int .i64 p0) ∧ V.cell? ⟨wr.heap.size + 1, 1, none⟩ = some (.int .i64 p1) ∧ V.cell? ⟨wr.heap.size + 1, 2, none⟩ = some (.int .i64 rp)) ?_ ?_
      · have b1 : Below wr.heap.size wr (wr.alloc (.cells #[.int .i64 ra, .int .i64 rb, .int .i64 rp] 62)) := (Below.refl _ _).alloc (Nat.le_refl _) _
        have s1 : (wr.alloc (.cells #[.int .i64 ra, .int .i64 rb, .int .i64 rp] 62)).heap.size = wr.heap.size + 1 := by simp
        generalize wr.alloc (.cells #[.int .i64 ra, .int .i64 rb, .int .i64 rp] 62) = W1 at *
        have b2 : Below W1.heap.size W1 (W1.alloc (.cells #[.int .i64 p0, .int .i64 p1, .int .i64 rp] 62)) := (Below.refl _ _).alloc (Nat.le_refl _) _
        have hc : ∀ k v, (#[.int .i64 p0, .int .i64 p1, .int .i64 rp] : Array Value)[k]? = some v → (W1.alloc (.cells #[.int .i64 p0, .int .i64 p1, .int .i64 rp] 62)).cell? ⟨W1.heap.size, k, none⟩ = some v := fun k v hv => by
          rw [cell_of_row _ _ _ _ _ _ (heap_alloc_new W1 _)]; exact hv
        rw [s1] at hc
        exact ⟨b1.trans (b2.mono (by omega)), hc 0 _ rfl, hc 1 _ rfl, hc 2 _ rfl⟩
      rintro V ⟨hb, v0, v1, v2⟩
      have HB := Lib.hid hb
      have lv := lt_of_cell v0
      have HPV := Lib.hid (HPC.out.off (S := fun _ => False) (Off.of_below hb) (fun _ => False.elim))
      have HIVV := Lib.hid (Y.off HIV.out (Off.of_below (S := fun _ => False) hb) (fun _ => False.elim))
      have HLT := Lib.hid (fun k (hk : O1 k) => Y.lt HIV.out hk)
      clear hb HIV q0 q1 q2 k1 k2 l1 l2
      by_cases hlt : p0 < p1
      · have hd := HD.out
        rw [if_pos hlt] at hd
        have hfold := HF.out
        rw [hd, foldL_cons] at hfold
        have hal2 := HAL.out x ⟨p0, p1, rp⟩ hx
        have hcall := Y.call ⟨p0, p1, rp⟩ HIVV.out hx
        obtain ⟨y, hy⟩ : ∃ y, f x ⟨p0, p1, rp⟩ = y := ⟨_, rfl⟩
        rw [hy] at hfold hal2 hcall
        obtain ⟨y1, more⟩ := y
        simp only at hfold hal2
        obtain ⟨fn, tmps, assign, body, hyl, hR⟩ := hcall
        simp only [Rg.args, Rg.v] at hyl
        have HFO := Lib.hid hfold
        have HR := Lib.hid hR
        have HA2 := Lib.hid hal2
        clear hfold hal2 hd hR hy HIVV
        gi_wp2
        refine HR.out.mono ?_
        rintro e W3 ⟨O2, rfl, hiv2, hof2, hgr2⟩
        simp only
        have HI2 := Lib.hid hiv2
        have HOF2 : Hid (Off O w W3) := Lib.hid ((HOF.out.step HB.out).late hof2 fun i hl e => (HGR.out i e).elim id (fun e => by omega))
        have HGR2 : Hid (∀ k, O2 k → O k ∨ w.heap.size ≤ k) := Lib.hid fun k e => by
          rcases hgr2 k e with e | e
          · exact HGR.out k e
          · have := HOF.out.size; have := HB.out.size; exact .inr (by omega)
        have HP2 := Lib.hid (HPV.out.off hof2 (fun k e e2 => HO1.out k e2 e))
        have HO2 : Hid (∀ k, pcO b (some ⟨g, o, none⟩) L.length k → ¬ O2 k) := Lib.hid fun k e e2 => by
          rcases hgr2 k e2 with e3 | e3
          · exact HO1.out k e e3
          · have := HPV.out.lt e; omega
        clear hiv2 hof2 hgr2
        cases more with
        | true =>
          have hfold := HFO.out
          rw [if_pos rfl] at hfold
          have HF2 := Lib.hid hfold
          clear hfold hyl HR
          gi_wp2
          go_roundw
          case rel => exact ⟨j + 1, O2, y1, by omega, by go_num, HI2.out, HA2.out.symm, HP2.out, HO2.out, HF2.out, HOF2.out, HGR2.out⟩
          case measure => simp [intOf]; omega
        | false =>
          have hfold := HFO.out
          rw [if_neg (by simp)] at hfold
          have HF2 := Lib.hid hfold
          clear hfold hyl HR
          gi_wp2
          go_end0
          exact ⟨O2, ⟨_, rfl⟩, by rw [HF2.out]; exact HI2.out, HOF2.out, HGR2.out⟩
      · have hd := HD.out
        rw [if_neg hlt] at hd
        have hfold := HF.out
        rw [hd] at hfold
        have HF2 := Lib.hid hfold
        clear hd hfold
        gi_wp2
        refine ⟨(fun _ h => by cases h), ?_⟩
        gi_wp2
        go_roundw
        case rel => exact ⟨j + 1, O1, x, by omega, by go_num, HIVV.out, hx, HPV.out, HO1.out, HF2.out, HOF.out.step HB.out, HGR.out⟩
        case measure => simp [intOf]; omega
    · obtain rfl : j = L.length := by omega
      have hfold := HF.out
      rw [List.drop_length] at hfold
      have HF2 := Lib.hid (show foldL f x0 (piecesF L lo hi) = x from hfold)
      clear hfold hjn
      have hjj : ¬ (L.length : Int) < (L.length : Int) := by omega
      gi_wp2
      go_end0
      exact ⟨O1, ⟨_, rfl⟩, by rw [HF2.out]; exact HIV.out, HOF.out, HGR.out⟩
end Go.Proofs.YtlhfjaagkgengaaGreat
