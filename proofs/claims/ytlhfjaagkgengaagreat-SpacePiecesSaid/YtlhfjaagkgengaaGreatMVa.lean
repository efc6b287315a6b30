/- A range over any function: what the rounds and the sequence promise each other. maps.Keys: the keys of a map, in whatever order. slices.Collect of a map's keys. slices.Sorted of a map's keys. -/
import Derived.Test.YtlhfjaagkgengaaGreatMRa
import Derived.Test.YtlhfjaagkgengaaGreatItZ
import Derived.Sort.Grow
import Derived.Ground.NamesProg
import Derived.Shelf.Lay
import Derived.Shelf.Sort.Plain
import Derived.Shelf.Slices.In.SortNone
namespace Go.Proofs.YtlhfjaagkgengaaGreat
open Go.RowKit
set_option linter.unusedVariables false
set_option linter.unusedSimpArgs false

/-- A round has answered; what it was handed may be its own now. -/
def VsG {α : Type} (Iv : World → (Nat → Prop) → α → Prop) (own : Nat → Prop) (w : World) (O : Nat → Prop) (y : α × Bool) (e : Ending) (w' : World) : Prop :=
  ∃ O' : Nat → Prop, e = .returned (.bool y.2) ∧ Iv w' O' y.1 ∧ Off O w w' ∧ ∀ k, O' k → O k ∨ own k ∨ w.heap.size ≤ k
/-- How a round's body may be left. -/
def bdPostG {α : Type} (al : α → Bool) (Iv : World → (Nat → Prop) → α → Prop) (Ix : Code → World → (Nat → Prop) → α → Prop) (OW OG : Nat → Prop) (W : World) (y : α) : Exit → Act → World → Prop
  | .normal, _, W' => al y = true ∧ ∃ O' : Nat → Prop, Iv W' O' y ∧ Off OW W W' ∧ ∀ k, O' k → OG k
  | .ret, _, W' => al y = false ∧ ∃ O' : Nat → Prop, Ix .ret W' O' y ∧ Off OW W W' ∧ ∀ k, O' k → OG k
  | .exit id, _, W' => al y = false ∧ ∃ O' : Nat → Prop, Ix (.exit id) W' O' y ∧ Off OW W W' ∧ ∀ k, O' k → OG k
  | .goto t, _, W' => al y = false ∧ ∃ O' : Nat → Prop, Ix (.goto t) W' O' y ∧ Off OW W W' ∧ ∀ k, O' k → OG k
  | .panic _, _, _ => False
  | .outgrown, _, _ => False
/-- What is ranged over any sequence: a loop's rounds, its own state, its own blocks. -/
structure YldG {α ε : Type} (f : α → ε → α × Bool) (arg : World → (Nat → Prop) → ε → Array Value → Prop) (own : Array Value → Nat → Prop) where
  l : Nat
  Iv : World → (Nat → Prop) → α → Prop
  Rdy : α → Nat → Prop
  mono : ∀ a n m, Rdy a n → m ≤ n → Rdy a m
  step : ∀ a e n, Rdy a (n + 1) → (f a e).2 = true → Rdy (f a e).1 n
  off : ∀ {S O : Nat → Prop} {w w' : World} {a : α}, Iv w O a → Off S w w' → (∀ k, S k → ¬ O k) → Iv w' O a
  lt : ∀ {O : Nat → Prop} {w : World} {a : α} {k : Nat}, Iv w O a → O k → k < w.heap.size
  call : ∀ {w : World} {O : Nat → Prop} {a : α} {e : ε} {vs : Array Value}, Iv w O a → Rdy a 1 → arg w O e vs → YieldAt Fence.wide 8 Tryz.prog l vs w (VsG Iv (own vs) w O (f a e))
set_option maxHeartbeats 4000000 in
theorem range_gen {α ε : Type} {F : FuncId} {lb : Array Value} {g : Operand} {ps : Array Tmp} {assign body : Code} {Q : Exit → Act → World → Prop} {a : Act} {w : World} {OS Ov : Nat → Prop}
    (hg : a.eval g = .func (.func F) #[] lb) (ent : ∀ (args : Array Value) (w : World), (callFunc F args).run Tryz.prog w = .ok (.enter F args) w)
    (f : α → ε → α × Bool) (al : α → Bool) (arg : World → (Nat → Prop) → ε → Array Value → Prop) (own : Array Value → Nat → Prop) (hal : ∀ x e, al x = true → (f x e).2 = al (f x e).1)
    (Rdy : α → Nat → Prop) (rdyM : ∀ a n m, Rdy a n → m ≤ n → Rdy a m) (rdyS : ∀ a e n, Rdy a (n + 1) → Rdy (f a e).1 n)
    (hlen : ∀ {w : World} {O : Nat → Prop} {e : ε} {vs : Array Value}, arg w O e vs → vs.size = ps.size)
    (argOwn : ∀ {w : World} {O : Nat → Prop} {e : ε} {vs : Array Value} {k : Nat}, arg w O e vs → own vs k → ¬ O k)
    (argOff : ∀ {S O O1 : Nat → Prop} {w w' : World} {e : ε} {vs : Array Value}, arg w O e vs → Off S w w' → (∀ k, S k → O k) → (∀ k, O1 k → O k) → arg w' O1 e vs)
    (Iv : World → (Nat → Prop) → α → Prop) (Ix : Code → World → (Nat → Prop) → α → Prop)
    (ivOff : ∀ {S O : Nat → Prop} {w w' : World} {x : α}, Iv w O x → Off S w w' → (∀ k, S k → ¬ O k) → Iv w' O x) (ivLt : ∀ {O : Nat → Prop} {w : World} {x : α} {k : Nat}, Iv w O x → O k → k < w.heap.size)
    (ixOff : ∀ {c : Code} {S O : Nat → Prop} {w w' : World} {x : α}, Ix c w O x → Off S w w' → (∀ k, S k → ¬ O k) → Ix c w' O x) (ixLt : ∀ {c : Code} {O : Nat → Prop} {w : World} {x : α} {k : Nat}, Ix c w O x → O k → k < w.heap.size)
    (x0 : α) (N : Nat) (hN : Rdy x0 N) (hx0 : al x0 = true) (hi : Iv w Ov x0) (hOS : ∀ k, OS k → k < w.heap.size)
    (Rs : α → World → Prop) (rsOff : ∀ {y : α} {W W' : World}, Rs y W → w.heap.size ≤ W.heap.size → Off (· = w.heap.size + 1) W W' → Rs y W')
    (hround : ∀ (l : Nat) (x : α) (e : ε) (vs : Array Value) (W : World) (O1 : Nat → Prop), (∀ k, O1 k → k < W.heap.size) → l < W.heap.size → ¬ O1 l → al x = true → Rdy x 1 → arg W O1 e vs →
      assign.wpIn (Fence.wide.inRound l) 8 Tryz.prog (Exit.then (fun a1 W1 => Below W.heap.size W W1 ∧ ∀ W2, Off (· = l) W1 W2 → Iv W2 O1 x → arg W2 O1 e vs →
        body.wpIn (Fence.wide.inRound l) 8 Tryz.prog (bdPostG al Iv Ix (fun k => O1 k ∨ W.heap.size ≤ k) (fun k => O1 k ∨ own vs k ∨ W.heap.size ≤ k) W2 (f x e).1) a1 W2) (fun _ _ _ => False)) { tmps := (ps.zip vs).foldl (fun t (p, v) => t.setIfInBounds p v) a.tmps, defers := [] } W)
    (hseq : ∀ (Y : YldG f arg own) (W1 : World) (O1 : Nat → Prop), Below w.heap.size w W1 → Y.Iv W1 O1 x0 → Y.Rdy x0 N → (∀ k, O1 k → Ov k ∨ w.heap.size ≤ k) →
      Calls Tryz.prog F (#[.func (.yield Y.l) #[] #[]] ++ lb) W1 fun e W2 => ∃ (y : α) (O2 : Nat → Prop), (∃ v, e = .returned v) ∧ Y.Iv W2 O2 y ∧ Rs y W2 ∧ Off (fun k => OS k ∨ O1 k) W1 W2 ∧ ∀ k, O2 k → O1 k ∨ W1.heap.size ≤ k)
    (hend : ∀ (D : Nat) (W : World) (O1 : Nat → Prop) (y : α), w.heap.size ≤ D → W.heap[D]? = some (.deferred (some [])) → Rs y W → Off (fun k => OS k ∨ Ov k) w W → (∀ k, O1 k → Ov k ∨ w.heap.size ≤ k) → ¬ O1 D →
      (al y = true → Iv W O1 y → Q .normal { a with defers := { target := .collected D, args := #[] } :: a.defers } W) ∧
      (al y = false → ∀ c, Ix c W O1 y → c.wpIn Fence.wide 9 Tryz.prog Q { a with defers := { target := .collected D, args := #[] } :: a.defers } W)) :
    (Code.rangeFunc g ps assign body).wpIn Fence.wide 9 Tryz.prog Q a w := by
  refine wpIn_rangeFunc ?_
  intro fn hfn
  obtain ⟨rec, hrec⟩ : ∃ rec : LoopState → Option Code → Loop, rec = fun st pe => { state := st, pending := pe, fn, tmps := a.tmps, params := ps, assign, body, defers := w.heap.size } := ⟨_, rfl⟩
  obtain ⟨W1, hW1⟩ : ∃ W1, (w.alloc (.deferred (some []))).alloc (.loop (rec .ready none)) = W1 := ⟨_, rfl⟩
  have hL1 : W1.heap[w.heap.size + 1]? = some (.loop (rec .ready none)) := by
    rw [← hW1]; have := World.alloc_heap_new (w.alloc (.deferred (some []))) (.loop (rec .ready none)); rwa [World.size_alloc] at this
  have hK1 : W1.heap[w.heap.size]? = some (.deferred (some [])) := by
    rw [← hW1]; exact (Below.heap_alloc _ _ _ (by simp)).trans (World.alloc_heap_new w _)
  have hb1 : Below w.heap.size w W1 := by
    rw [← hW1]; exact ((Below.refl _ w).alloc (Nat.le_refl _) _).alloc (by simp) _
  obtain ⟨L, hL⟩ : ∃ L, w.heap.size + 1 = L := ⟨_, rfl⟩
  obtain ⟨D, hD⟩ : ∃ D, w.heap.size = D := ⟨_, rfl⟩
  have hVlt : ∀ k, Ov k → k < w.heap.size := fun k hk => ivLt hi hk
  have hLD : L ≠ D := by omega
  let Y : YldG f arg own := {
    l := L
    Iv := fun w O x => ∃ O1, LpAt al Iv Ix rec L D w O x O1
    Rdy := fun x n => al x = true ∧ Rdy x n
    mono := fun x n m h hm => ⟨h.1, rdyM _ _ _ h.2 hm⟩
    step := fun x e n h h2 => ⟨(hal x e h.1).symm.trans h2, rdyS _ _ _ h.2⟩
    off := fun {S O w w' x} h ho hs => by
      obtain ⟨O1, k⟩ := h
      have hs1 : ∀ k', S k' → ¬ O1 k' := fun k' e e2 => hs k' e ((k.eqO k').2 (.inl e2))
      exact ⟨O1, k.eqO, k.nL, k.nD, heap_off k.df ho (fun e => hs D e ((k.eqO D).2 (.inr (.inr rfl)))), fun e => ⟨ivOff (k.yes e).1 ho hs1, heap_off (k.yes e).2 ho (fun e => hs L e ((k.eqO L).2 (.inr (.inl rfl))))⟩, fun e => by
        obtain ⟨c, i1, i2⟩ := k.no e
        exact ⟨c, ixOff i1 ho hs1, heap_off i2 ho (fun e => hs L e ((k.eqO L).2 (.inr (.inl rfl))))⟩⟩
    lt := fun {O w x k} h hk => by
      obtain ⟨O1, hh⟩ := h
      rcases (hh.eqO k).1 hk with e | e | e
      · cases hx : al x with
        | true => exact ivLt (hh.yes hx).1 e
        | false => obtain ⟨c, i1, _⟩ := hh.no hx; exact ixLt i1 e
      · rw [e]
        cases hx : al x with
        | true => exact (Array.getElem?_eq_some_iff.1 (hh.yes hx).2).1
        | false => obtain ⟨c, _, i2⟩ := hh.no hx; exact (Array.getElem?_eq_some_iff.1 i2).1
      · rw [e]; exact (Array.getElem?_eq_some_iff.1 hh.df).1
    call := fun {W O x ev vs} h hxr hv => by
      obtain ⟨hx, hr1⟩ := hxr
      obtain ⟨O1, hh⟩ := h
      obtain ⟨hiv, hl⟩ := hh.yes hx
      have hy := run_yield (P := Tryz.prog) (args := vs) hl (by rw [hrec]; exact hlen hv)
      rw [hrec] at hy
      have hltL : L < W.heap.size := (Array.getElem?_eq_some_iff.1 hl).1
      have hltD : D < W.heap.size := (Array.getElem?_eq_some_iff.1 hh.df).1
      have hO1lt : ∀ k, O1 k → k < W.heap.size := fun k e => ivLt hiv e
      refine ⟨fn, _, assign, body, hy, roundIn_of_wpIn hfn (wpIn_mono (hround L x ev vs W O1 hO1lt hltL hh.nL hx hr1 (argOff (S := fun _ => False) hv (Off.refl _ _) (fun _ => False.elim) (fun k e => (hh.eqO k).2 (.inl e)))) ?_)⟩
      clear hy
      rintro ex a1 V1 hA
      cases ex with
      | exit id => exact hA.elim
      | goto t => exact hA.elim
      | ret => exact hA.elim
      | panic ch => exact hA.elim
      | outgrown => exact hA.elim
      | normal =>
      obtain ⟨hbA, hA⟩ := hA
      have hl1 : V1.heap[L]? = some (.loop (rec .ready none)) := heap_off hl (S := fun _ => False) (Off.of_below hbA) id
      have hd1 : V1.heap[D]? = some (.deferred (some [])) := heap_off hh.df (S := fun _ => False) (Off.of_below hbA) id
      have hsA := hbA.size
      refine ⟨_, run_beginRound hl1 (by rw [hrec]), ?_⟩
      have hlt : L < V1.heap.size := by omega
      have hbusy := off_putObj V1 (l := L) (.loop { rec .ready none with state := .busy })
      have hl2 : (V1.putObj L (.loop { rec .ready none with state := .busy })).heap[L]? = some (.loop { rec .ready none with state := .busy }) := World.putObj_heap_same hlt
      have hoffA : Off (fun k => O k) W (V1.putObj L (.loop { rec .ready none with state := .busy })) := ((Off.of_below hbA).mono (S' := fun k => O k) (fun _ => False.elim)).trans (hbusy.mono fun k e => by rw [e]; exact (hh.eqO L).2 (.inr (.inl rfl)))
      have hb2 := hA _ hbusy (ivOff (ivOff hiv (Off.of_below (S := fun _ => False) hbA) (fun _ => False.elim)) hbusy (fun k e e2 => hh.nL (by rw [← e]; exact e2))) (argOff hv hoffA (fun k e => e) (fun k e => (hh.eqO k).2 (.inl e)))
      have hd2 : (V1.putObj L (.loop { rec .ready none with state := .busy })).heap[D]? = some (.deferred (some [])) := heap_off hd1 hbusy (fun e => hLD e.symm)
      have hsz2 : (V1.putObj L (.loop { rec .ready none with state := .busy })).heap.size = V1.heap.size := by simp
      have hoffW : Off (· = L) W (V1.putObj L (.loop { rec .ready none with state := .busy })) := ((Off.of_below hbA).mono (S' := (· = L)) (fun _ => False.elim)).trans hbusy
      generalize V1.putObj L (.loop { rec .ready none with state := .busy }) = Wb at *
      refine wpIn_mono hb2 ?_
      have hal2 := hal x ev hx
      generalize f x ev = y at *
      have fin : ∀ (jump : Option Code) (W3 : World), Off (fun k => O1 k ∨ W.heap.size ≤ k) Wb W3 →
          (Instr.endRound L jump).run Tryz.prog W3 = .ok (.bool jump.isNone) (W3.putObj L (.loop (rec (if jump.isNone then .ready else .done) jump))) ∧
          (W3.putObj L (.loop (rec (if jump.isNone then .ready else .done) jump))).heap[L]? = some (.loop (rec (if jump.isNone then .ready else .done) jump)) ∧
          (W3.putObj L (.loop (rec (if jump.isNone then .ready else .done) jump))).heap[D]? = some (.deferred (some [])) ∧ Off (· = L) W3 (W3.putObj L (.loop (rec (if jump.isNone then .ready else .done) jump))) := fun jump W3 ho3 => by
        have hl3 := heap_off hl2 ho3 (fun e => e.elim hh.nL (fun e => by omega))
        have := run_endRound (P := Tryz.prog) jump hl3
        rw [hrec] at this ⊢
        exact ⟨this, World.putObj_heap_same (Array.getElem?_eq_some_iff.1 hl3).1, heap_off (heap_off hd2 ho3 (fun e => e.elim hh.nD (fun e => by omega))) (off_putObj W3 _) (fun e => hLD e.symm), off_putObj W3 _⟩
      have hoff : ∀ {W3 W4 : World}, Off (fun k => O1 k ∨ W.heap.size ≤ k) Wb W3 → Off (· = L) W3 W4 → Off O W W4 := fun h3 h4 => by
        have e1 : Off O W Wb := hoffW.mono (fun k e => by rw [e]; exact (hh.eqO L).2 (.inr (.inl rfl)))
        refine (e1.late h3 fun i hl hi => hi.elim (fun e => (hh.eqO i).2 (.inl e)) (fun e => by omega)).trans (h4.mono (fun k e => by rw [e]; exact (hh.eqO L).2 (.inr (.inl rfl))))
      have hgrow : ∀ {O' : Nat → Prop}, (∀ k, O' k → O1 k ∨ own vs k ∨ W.heap.size ≤ k) → ¬ O' L ∧ ¬ O' D ∧ ∀ k, (O' k ∨ k = L ∨ k = D) → O k ∨ own vs k ∨ W.heap.size ≤ k := fun hO' =>
        ⟨fun e => (hO' L e).elim hh.nL (fun e => e.elim (fun e => argOwn hv e ((hh.eqO L).2 (.inr (.inl rfl)))) (fun e => by omega)), fun e => (hO' D e).elim hh.nD (fun e => e.elim (fun e => argOwn hv e ((hh.eqO D).2 (.inr (.inr rfl)))) (fun e => by omega)), fun k e => by
          rcases e with e | e
          · exact (hO' k e).imp (fun e => (hh.eqO k).2 (.inl e)) id
          · exact .inl ((hh.eqO k).2 (.inr e))⟩
      have stop : ∀ (c : Code) (W3 : World) (O' : Nat → Prop), al y.1 = false → Ix c W3 O' y.1 → Off (fun k => O1 k ∨ W.heap.size ≤ k) Wb W3 → (∀ k, O' k → O1 k ∨ own vs k ∨ W.heap.size ≤ k) → ∃ v w', (Instr.endRound L (some c)).run Tryz.prog W3 = .ok v w' ∧ VsG (fun w O x => ∃ O1, LpAt al Iv Ix rec L D w O x O1) (own vs) W O y (.returned v) w' := fun c W3 O' hf hix ho3 hO' => by
        obtain ⟨e1, e2, e3, e4⟩ := fin (some c) W3 ho3
        obtain ⟨n1, n2, n3⟩ := hgrow hO'
        refine ⟨_, _, e1, fun k => O' k ∨ k = L ∨ k = D, by rw [hal2, hf]; rfl, ⟨O', fun k => Iff.rfl, n1, n2, e3, (fun e => by rw [hf] at e; cases e), fun _ => ⟨c, ixOff hix e4 (fun k e e2 => n1 (by rw [← e]; exact e2)), e2⟩⟩, hoff ho3 e4, n3⟩
      rintro e a3 W3 hp
      cases e with
      | normal =>
        obtain ⟨hf, O', hix, ho3, hO'⟩ := hp
        obtain ⟨e1, e2, e3, e4⟩ := fin none W3 ho3
        obtain ⟨n1, n2, n3⟩ := hgrow hO'
        exact ⟨_, _, e1, fun k => O' k ∨ k = L ∨ k = D, by rw [hal2, hf]; rfl, ⟨O', fun k => Iff.rfl, n1, n2, e3, fun _ => ⟨ivOff hix e4 (fun k e e2 => n1 (by rw [← e]; exact e2)), e2⟩, (fun e => by rw [hf] at e; cases e)⟩, hoff ho3 e4, n3⟩
      | ret => obtain ⟨hf, O', hix, ho3, hO'⟩ := hp; exact stop .ret W3 O' hf hix ho3 hO'
      | exit id => obtain ⟨hf, O', hix, ho3, hO'⟩ := hp; exact stop (.exit id) W3 O' hf hix ho3 hO'
      | goto t => obtain ⟨hf, O', hix, ho3, hO'⟩ := hp; exact stop (.goto t) W3 O' hf hix ho3 hO'
      | panic ch => exact hp.elim
      | outgrown => exact hp.elim }
  refine ⟨L, [{ target := .collected w.heap.size, args := #[] }], W1, { target := .fn (.func F) lb, args := #[.func (.yield L) #[] #[]] }, W1, F,
    #[.func (.yield L) #[] #[]] ++ lb, W1, ?_, ?_, ?_, ?_, fun _ => by omega, ?_⟩
  · rw [← hW1, hrec, ← hL]; exact run_enterLoop_outer _ _ _ _ _
  · simp only [resolve, hg]
    simp [go_sem]
  · intro f' hf'; trivial
  · simp [invoke, go_sem, ent]
  · have hivY : Y.Iv W1 (fun k => Ov k ∨ k = L ∨ k = D) x0 := ⟨Ov, fun k => Iff.rfl, fun e => by have := hVlt _ e; omega, fun e => by have := hVlt _ e; omega, by rw [← hD]; exact hK1, fun _ => ⟨ivOff hi (Off.of_below (S := fun _ => False) hb1) (fun _ => False.elim), by rw [← hL]; exact hL1⟩, fun e => by rw [hx0] at e; cases e⟩
    have hsq := hseq Y W1 _ hb1 hivY ⟨hx0, hN⟩ (fun k e => by
      rcases e with e | e | e
      · exact .inl e
      · exact .inr (by omega)
      · exact .inr (by omega))
    refine (callsIn_wide.2 hsq).mono ?_
    rintro e W2 ⟨y, Ov', ⟨v, rfl⟩, ⟨O1, hh⟩, hrs, hof, hO'⟩
    have hofw : Off (fun k => OS k ∨ Ov k) w W2 := ((Off.of_below hb1).mono (fun _ => False.elim)).late hof fun i hl hi => by
      rcases hi with e | e | e | e
      · exact .inl e
      · exact .inr e
      · omega
      · omega
    have hO1 : ∀ k, O1 k → Ov k ∨ w.heap.size ≤ k := fun k e => by
      have := hb1.size
      rcases hO' k ((hh.eqO k).2 (.inl e)) with (e2 | e2 | e2) | e2
      · exact .inl e2
      · exact .inr (by omega)
      · exact .inr (by omega)
      · exact .inr (by omega)
    have hs2 := hofw.size
    have endL : ∀ (st : LoopState) (pe : Option Code), W2.heap[L]? = some (.loop (rec st pe)) → st ≠ .busy → ∃ W3, (Instr.endLoop L).run Tryz.prog W2 = .ok pe W3 ∧ Off (· = L) W2 W3 := fun st pe hl hst => by
      have := run_endLoop (P := Tryz.prog) hl (by rw [hrec]; exact hst)
      rw [hrec] at this
      exact ⟨_, this, off_putObj W2 _⟩
    cases hx : al y with
    | true =>
      obtain ⟨i1, i2⟩ := hh.yes hx
      obtain ⟨W3, e1, e2⟩ := endL _ _ i2 (by simp)
      refine ⟨none, W3, e1, ?_⟩
      rw [hD]
      exact (hend D W3 O1 y (by omega) (heap_off hh.df e2 (fun e => hLD e.symm)) (rsOff hrs hs2 (e2.mono fun k e => e.trans hL.symm)) (hofw.late e2 fun i hl e => by omega) hO1 hh.nD).1 hx (ivOff i1 e2 (fun k e e3 => hh.nL (by rw [← e]; exact e3)))
    | false =>
      obtain ⟨c, i1, i2⟩ := hh.no hx
      obtain ⟨W3, e1, e2⟩ := endL _ _ i2 (by simp)
      refine ⟨some c, W3, e1, ?_⟩
      rw [hD]
      exact (hend D W3 O1 y (by omega) (heap_off hh.df e2 (fun e => hLD e.symm)) (rsOff hrs hs2 (e2.mono fun k e => e.trans hL.symm)) (hofw.late e2 fun i hl e => by omega) hO1 hh.nD).2 hx c (ixOff i1 e2 (fun k e e3 => hh.nL (by rw [← e]; exact e3)))
end Go.Proofs.YtlhfjaagkgengaaGreat
namespace Go.Proofs.YtlhfjaagkgengaaGreat
open Go.RowKit Go.Maps
set_option linter.unusedVariables false
set_option linter.unusedSimpArgs false
/-- These are a map's keys, each once. -/
structure KsOf (f : Value → Option Value) (n : Nat) (xs : List Int) : Prop where
  nd : xs.Nodup
  mem : ∀ k, k ∈ xs ↔ (f (.int .i64 k)).isSome = true
  len : xs.length = n
def argI (_ : World) (_ : Nat → Prop) (k : Int) (vs : Array Value) : Prop := vs = #[.int .i64 k]
def ownI (_ : Array Value) (_ : Nat) : Prop := False
set_option maxRecDepth 100000 in
set_option maxHeartbeats 4000000 in
theorem keys1_any {α : Type} {fy : α → Int → α × Bool} (Y : YldG fy argI ownI) (ht : ∀ x e, (fy x e).2 = true) {w : World} {O : Nat → Prop} {x0 : α} {b Mm n : Nat} {f : Value → Option Value}
    (hi0 : Y.Iv w O x0) (hr0 : Y.Rdy x0 n) (c0 : w.cell? ⟨b, 0, none⟩ = some (.map (some Mm))) (hm : MapIs Tryz.prog 3 w Mm f n) (hk : ∀ key v, f key = some v → ∃ k, key = .int .i64 k) (hO : ¬ O b ∧ ¬ O Mm) :
    Calls Tryz.prog 111 #[.func (.yield Y.l) #[] #[], .pointer (some ⟨b, 0, none⟩)] w fun e w' => ∃ (y : α) (O2 : Nat → Prop), (∃ v, e = .returned v) ∧ Y.Iv w' O2 y ∧ (∃ xs, KsOf f n xs ∧ y = xs.foldl (fun a k => (fy a k).1) x0) ∧ Off O w w' ∧ ∀ k, O2 k → O k ∨ w.heap.size ≤ k := by
  have HI := Lib.hid hi0
  have l0 := lt_of_cell c0
  have HT := Lib.hid ht
  have HRD := Lib.hid hr0
  have HK := Lib.hid hk
  obtain ⟨w1, hrg, hit, hb1⟩ := MapIs.range hm Tryz.underlying112
  have hMr := hit.lt
  have hMlt := hm.lt
  have HIT := Lib.hid hit
  have HB := Lib.hid hb1
  have hO1 := hO.1
  have hO2 := hO.2
  have HYL := Lib.hid (fun k (hk : O k) => Y.lt hi0 hk)
  clear hi0 hr0 ht hk hm hit hb1 hO hMr
  refine (callsIn_wide (n := 9)).1 ?_
  refine callsIn_of_wp Tryz.func111 rfl trivial ?_ rfl
  simp only [Tryz.ntmps111, List.size_toArray, List.length_cons, List.length_nil, Nat.reduceAdd, Nat.reduceSub, Array.replicate_succ, Array.replicate_zero, List.push_toArray, List.append_toArray, List.nil_append, List.cons_append]
  gi_wp2
  obtain ⟨Br, hBr⟩ : ∃ g, w.heap.size = g := ⟨_, rfl⟩
  rw [hBr] at hrg HIT
  rw [hBr]
  have HBR := Lib.hid hBr
  have hbr : Mm ≠ Br := by omega
  clear hrg hBr
  gi_loopw [3] (fun _ wr => ∃ (left : Value → Prop) (cnt : Nat) (xs : List Int) (O1 : Nat → Prop), ItIs Tryz.prog 3 wr Mm Br f left cnt ∧ Y.Iv wr O1 (xs.foldl (fun a k => (fy a k).1) x0) ∧ Y.Rdy (xs.foldl (fun a k => (fy a k).1) x0) cnt ∧ xs.Nodup ∧ (∀ k, k ∈ xs ↔ ((f (.int .i64 k)).isSome = true ∧ ¬ left (.int .i64 k))) ∧ cnt + xs.length = n ∧ wr.cell? ⟨b, 0, none⟩ = some (.map (some Mm)) ∧ (¬ O1 b ∧ ¬ O1 Mm ∧ ¬ O1 Br) ∧ Off O w wr ∧ ∀ k, O1 k → O k ∨ w.heap.size ≤ k) (fun _ wr => wr.rangeLeft Mm Br)
  case atStart =>
    refine ⟨_, n, [], O, HIT.out, Y.off HI.out (Off.of_below (S := fun _ => False) HB.out) (fun _ => False.elim), HRD.out, List.nodup_nil, fun k => by simp, by simp, (HB.out.cell (p := ⟨b, 0, none⟩) l0).trans c0, ⟨hO1, hO2, fun e => by have := HYL.out _ e; have := HBR.out; omega⟩, (Off.of_below HB.out).mono (fun _ => False.elim), fun k => .inl⟩
  case round =>
    obtain ⟨left, cnt, xs, O1, hit, hiv, hrd, hnd, hmem, hlen, hc, hno, hof, hgr⟩ := hrel
    have HIT2 := Lib.hid hit
    have HIV := Lib.hid hiv
    have HRY := Lib.hid hrd
    have HND := Lib.hid hnd
    have HMEM := Lib.hid hmem
    have HNO := Lib.hid hno
    have HOF := Lib.hid hof
    have HGR := Lib.hid hgr
    have HC := Lib.hid hc
    have hnx := hit.next hbr
    clear hit hiv hrd hnd hmem hc hno hof hgr HIT
    rcases hnx with ⟨h0, hno, hrun⟩ | ⟨key, val, w5, hf, hlf, hpos, ⟨kl, hkl⟩, hrun, ho, hs5, hit5, hent⟩
    · have HN := Lib.hid hno
      clear hno
      gi_wp2
      go_end0
      refine ⟨_, O1, ⟨_, rfl⟩, HIV.out, ⟨xs, ⟨HND.out, fun k => ?_, by omega⟩, rfl⟩, HOF.out, HGR.out⟩
      · rw [HMEM.out]
        refine ⟨fun h => h.1, fun h => ⟨h, ?_⟩⟩
        cases hv : f (.int .i64 k) with
        | none => rw [hv] at h; cases h
        | some v => exact HN.out _ v hv
    · obtain ⟨pk, rfl⟩ := HK.out key val hf
      have hnotin : pk ∉ xs := fun h => ((HMEM.out pk).1 h).2 hlf
      have hiv5 := Y.off HIV.out ho (fun k e => by rw [e]; exact HNO.out.2.2)
      have hry := HRY.out
      rw [show cnt = cnt - 1 + 1 by omega] at hry
      have hcall := Y.call (e := pk) (vs := #[.int .i64 pk]) hiv5 (Y.mono _ _ _ hry (by omega)) rfl
      have hst := Y.step _ pk _ hry (HT.out _ _)
      have hm2 := HT.out (xs.foldl (fun a k => (fy a k).1) x0) pk
      obtain ⟨y, hy⟩ : ∃ y, fy (xs.foldl (fun a k => (fy a k).1) x0) pk = y := ⟨_, rfl⟩
      have hfold : (xs ++ [pk]).foldl (fun a k => (fy a k).1) x0 = y.1 := by rw [List.foldl_append, ← hy]; rfl
      rw [hy] at hcall hm2 hst
      obtain ⟨y1, more⟩ := y
      simp only at hm2 hfold
      subst hm2
      obtain ⟨fn, tmps, assign, body, hyl, hR⟩ := hcall
      have HFO := Lib.hid hfold
      have HR := Lib.hid hR
      have HIT5 := Lib.hid hit5
      have HO5 := Lib.hid ho
      have HF := Lib.hid (And.intro hf hlf)
      have HNI := Lib.hid hnotin
      have HST := Lib.hid hst
      clear hfold hR hy hst hry hiv5 hit5 ho hf hlf hkl hnotin hs5
      gi_wp2
      refine HR.out.mono ?_
      rintro e W3 ⟨O2, rfl, hiv2, hof2, hgr2⟩
      simp only
      have HI2 := Lib.hid hiv2
      have HOF2 := Lib.hid hof2
      have HGR2 := Lib.hid hgr2
      clear hiv2 hof2 hgr2 hyl HR
      gi_wp2
      have hlt5 := HIT5.out.lt
      have HIT6 := Lib.hid (HIT5.out.off HOF2.out HNO.out.2.1 HNO.out.2.2)
      have hc5 := (HO5.out.cell (p := ⟨b, 0, none⟩) (lt_of_cell HC.out) (fun e => by have := HBR.out; have : b = Br := e; omega)).trans HC.out
      have hc6 := (HOF2.out.cell (p := ⟨b, 0, none⟩) (lt_of_cell hc5) HNO.out.1).trans hc5
      have hno2 : ∀ k, k < w5.heap.size → ¬ O1 k → ¬ O2 k := fun k hk h1 h2 => by
        rcases HGR2.out k h2 with e | e | e
        · exact h1 e
        · exact e.elim
        · omega
      go_roundw
      case rel =>
        refine ⟨_, _, xs ++ [pk], O2, HIT6.out, by rw [HFO.out]; exact HI2.out, by rw [HFO.out]; exact HST.out, ?_, fun k => ?_, by rw [List.length_append, List.length_singleton]; omega, hc6, ⟨hno2 _ (lt_of_cell hc5) HNO.out.1, hno2 _ hlt5.1 HNO.out.2.1, hno2 _ hlt5.2 HNO.out.2.2⟩, ?_, fun k e => ?_⟩
        · rw [List.nodup_append]
          exact ⟨HND.out, by simp, fun a ha c hc => by simp at hc; subst hc; exact fun e => HNI.out (by rw [← e]; exact ha)⟩
        · rw [List.mem_append, List.mem_singleton, HMEM.out]
          constructor
          · rintro (⟨h1, h2⟩ | rfl)
            · exact ⟨h1, fun h => h2 h.1⟩
            · exact ⟨by rw [HF.out.1]; rfl, fun h => h.2 rfl⟩
          · rintro ⟨h1, h2⟩
            by_cases h3 : left (.int .i64 k)
            · right
              by_cases h4 : (Value.int .i64 k) = .int .i64 pk
              · injection h4
              · exact absurd ⟨h3, h4⟩ h2
            · exact .inl ⟨h1, h3⟩
        · exact (HOF.out.late HO5.out fun i hi e => by have := HBR.out; have : i = Br := e; omega).late HOF2.out fun i hi e => (HGR.out i e).elim id (fun e => by omega)
        · rcases HGR2.out k e with e | e | e
          · exact HGR.out k e
          · exact e.elim
          · have := HOF.out.size; have := HO5.out.size; exact .inr (by omega)
      case measure => rw [HIT6.out.left_eq, HIT2.out.left_eq]; omega
end Go.Proofs.YtlhfjaagkgengaaGreat
namespace Go.Proofs.YtlhfjaagkgengaaGreat
open Go.RowKit Go.Maps
set_option linter.unusedVariables false
set_option linter.unusedSimpArgs false
@[simp, go_sem] theorem semAtJ_assign (l : Nat) (ρ : Operand → Value) x d ty po af gd : Oper.semAt (some l) ρ { dst := d, op := .assign x, type := ty, pos := po, after := af, guard := gd } = execOp ρ { dst := d, op := .assign x, type := ty, pos := po, after := af, guard := gd } := Oper.semAt_some l _ _ (fun c h => by cases h)
@[simp, go_sem] theorem semAtJ_move (l : Nat) (ρ : Operand → Value) x d ty po af gd : Oper.semAt (some l) ρ { dst := d, op := .move x, type := ty, pos := po, after := af, guard := gd } = execOp ρ { dst := d, op := .move x, type := ty, pos := po, after := af, guard := gd } := Oper.semAt_some l _ _ (fun c h => by cases h)
@[simp, go_sem] theorem semAtJ_load (l : Nat) (ρ : Operand → Value) t1 x d ty po af gd : Oper.semAt (some l) ρ { dst := d, op := .load t1 x, type := ty, pos := po, after := af, guard := gd } = execOp ρ { dst := d, op := .load t1 x, type := ty, pos := po, after := af, guard := gd } := Oper.semAt_some l _ _ (fun c h => by cases h)
@[simp, go_sem] theorem semAtJ_store (l : Nat) (ρ : Operand → Value) t1 x y d ty po af gd : Oper.semAt (some l) ρ { dst := d, op := .store t1 x y, type := ty, pos := po, after := af, guard := gd } = execOp ρ { dst := d, op := .store t1 x y, type := ty, pos := po, after := af, guard := gd } := Oper.semAt_some l _ _ (fun c h => by cases h)
@[simp, go_sem] theorem semAtJ_binOp (l : Nat) (ρ : Operand → Value) b t1 x y t2 d ty po af gd : Oper.semAt (some l) ρ { dst := d, op := .binOp b t1 x y t2, type := ty, pos := po, after := af, guard := gd } = execOp ρ { dst := d, op := .binOp b t1 x y t2, type := ty, pos := po, after := af, guard := gd } := Oper.semAt_some l _ _ (fun c h => by cases h)
@[simp, go_sem] theorem semAtJ_unOp (l : Nat) (ρ : Operand → Value) b t1 x d ty po af gd : Oper.semAt (some l) ρ { dst := d, op := .unOp b t1 x, type := ty, pos := po, after := af, guard := gd } = execOp ρ { dst := d, op := .unOp b t1 x, type := ty, pos := po, after := af, guard := gd } := Oper.semAt_some l _ _ (fun c h => by cases h)
@[simp, go_sem] theorem semAtJ_pick (l : Nat) (ρ : Operand → Value) x y z d ty po af gd : Oper.semAt (some l) ρ { dst := d, op := .pick x y z, type := ty, pos := po, after := af, guard := gd } = execOp ρ { dst := d, op := .pick x y z, type := ty, pos := po, after := af, guard := gd } := Oper.semAt_some l _ _ (fun c h => by cases h)
@[simp, go_sem] theorem semAtJ_conv (l : Nat) (ρ : Operand → Value) t1 t2 x d ty po af gd : Oper.semAt (some l) ρ { dst := d, op := .convert t1 t2 x, type := ty, pos := po, after := af, guard := gd } = execOp ρ { dst := d, op := .convert t1 t2 x, type := ty, pos := po, after := af, guard := gd } := Oper.semAt_some l _ _ (fun c h => by cases h)
@[simp, go_sem] theorem semAtJ_ext (l : Nat) (ρ : Operand → Value) x i d ty po af gd : Oper.semAt (some l) ρ { dst := d, op := .extract x i, type := ty, pos := po, after := af, guard := gd } = execOp ρ { dst := d, op := .extract x i, type := ty, pos := po, after := af, guard := gd } := Oper.semAt_some l _ _ (fun c h => by cases h)
@[simp, go_sem] theorem semAtJ_look (l : Nat) (ρ : Operand → Value) t1 x y b d ty po af gd : Oper.semAt (some l) ρ { dst := d, op := .lookup t1 x y b, type := ty, pos := po, after := af, guard := gd } = execOp ρ { dst := d, op := .lookup t1 x y b, type := ty, pos := po, after := af, guard := gd } := Oper.semAt_some l _ _ (fun c h => by cases h)
@[simp, go_sem] theorem semAtJ_alloc (l : Nat) (ρ : Operand → Value) t1 d ty po af gd : Oper.semAt (some l) ρ { dst := d, op := .alloc t1, type := ty, pos := po, after := af, guard := gd } = execOp ρ { dst := d, op := .alloc t1, type := ty, pos := po, after := af, guard := gd } := Oper.semAt_some l _ _ (fun c h => by cases h)
@[simp, go_sem] theorem semAtJ_bslice (l : Nat) (ρ : Operand → Value) t1 n els d ty po af gd : Oper.semAt (some l) ρ { dst := d, op := .buildSlice t1 n els, type := ty, pos := po, after := af, guard := gd } = execOp ρ { dst := d, op := .buildSlice t1 n els, type := ty, pos := po, after := af, guard := gd } := Oper.semAt_some l _ _ (fun c h => by cases h)
@[simp, go_sem] theorem semAtJ_build (l : Nat) (ρ : Operand → Value) t1 els d ty po af gd : Oper.semAt (some l) ρ { dst := d, op := .build t1 els, type := ty, pos := po, after := af, guard := gd } = execOp ρ { dst := d, op := .build t1 els, type := ty, pos := po, after := af, guard := gd } := Oper.semAt_some l _ _ (fun c h => by cases h)
@[simp, go_sem] theorem semAtJ_box (l : Nat) (ρ : Operand → Value) t1 x d ty po af gd : Oper.semAt (some l) ρ { dst := d, op := .box t1 x, type := ty, pos := po, after := af, guard := gd } = execOp ρ { dst := d, op := .box t1 x, type := ty, pos := po, after := af, guard := gd } := Oper.semAt_some l _ _ (fun c h => by cases h)
@[simp, go_sem] theorem semAtJ_faddr (l : Nat) (ρ : Operand → Value) t1 x i d ty po af gd : Oper.semAt (some l) ρ { dst := d, op := .fieldAddr t1 x i, type := ty, pos := po, after := af, guard := gd } = execOp ρ { dst := d, op := .fieldAddr t1 x i, type := ty, pos := po, after := af, guard := gd } := Oper.semAt_some l _ _ (fun c h => by cases h)
@[simp, go_sem] theorem semAtJ_iaddr (l : Nat) (ρ : Operand → Value) t1 x y d ty po af gd : Oper.semAt (some l) ρ { dst := d, op := .indexAddr t1 x y, type := ty, pos := po, after := af, guard := gd } = execOp ρ { dst := d, op := .indexAddr t1 x y, type := ty, pos := po, after := af, guard := gd } := Oper.semAt_some l _ _ (fun c h => by cases h)
@[simp, go_sem] theorem semAtJ_call (l : Nat) (ρ : Operand → Value) c d ty po af gd : Oper.semAt (some l) ρ { dst := d, op := .call c, type := ty, pos := po, after := af, guard := gd } = execOp ρ { dst := d, op := .call c, type := ty, pos := po, after := af, guard := gd } := Oper.semAt_some l _ _ (fun c h => by cases h)
def ivJ (i : Int) : Value := .int .i64 i
/-- The ints L, in a row of the call's own (from block B on). -/
def OwJ (B : Nat) (w : World) (v : Value) (L : List Int) : Prop := w.ownsRow B 3 1 v L.length (L.map ivJ)
section
variable {B : Nat} {w : World} {v : Value} {L : List Int}
theorem OwJ.lt (h : OwJ B w v L) : ∀ k, v.ownBlock = some k → B ≤ k ∧ k < w.heap.size := World.ownsRow.lt h
theorem OwJ.off (h : OwJ B w v L) {S : Nat → Prop} {w' : World} (ho : Off S w w') (hs : ∀ k, v.ownBlock = some k → ¬ S k) : OwJ B w' v L := by
  refine ⟨h.1, ?_⟩
  rcases h.2 with hn | ⟨g, cap, cur, rfl, hb, hgg, rest⟩
  · exact .inl hn
  · refine .inr ⟨g, cap, cur, rfl, hb, ?_, rest⟩
    rw [ho.block g (Array.getElem?_eq_some_iff.1 hgg).1 (hs g rfl)]
    exact hgg
theorem OwJ.up (h : OwJ B w v L) {w' : World} (hb : Below w.heap.size w w') : OwJ B w' v L := h.off (S := fun _ => False) (Off.of_below hb) (fun _ _ => id)
theorem OwJ.mono (h : OwJ B w v L) {B' : Nat} (hb : B' ≤ B) : OwJ B' w v L := World.ownsRow.mono h hb
theorem OwJ.empty (B : Nat) (w : World) : OwJ B w (.slice none 0 0) [] := World.ownsRow_nil _ _ _ _
theorem OwJ.form (h : OwJ B w v L) : ∃ A c, v = .slice A L.length c ∧ L.length ≤ c ∧ (A = none → L = []) ∧ ∀ g o, A = some ⟨g, o, none⟩ → o = 0 ∧ v.ownBlock = some g := by
  rcases h.2 with ⟨rfl, h0⟩ | ⟨g, cap, cur, rfl, hb, hg, h1, h2, h3, h4⟩
  · have : L = [] := by simpa using h0
    subst this
    exact ⟨none, 0, rfl, by simp, fun _ => rfl, fun g o e => by cases e⟩
  · exact ⟨some ⟨g, 0, none⟩, cap, rfl, h1, (fun e => by cases e), fun g' o e => by cases e; exact ⟨rfl, rfl⟩⟩
theorem OwJ.cell (h : OwJ B w v L) {g : Nat} (hg : v.ownBlock = some g) {j : Nat} {x : Int} (hx : L[j]? = some x) : w.cell? ⟨g, j, none⟩ = some (.int .i64 x) := by
  have := World.ownsRow.cells h (g := g) hg j (ivJ x) (by rw [List.getElem?_map, hx]; rfl)
  rw [show (⟨g, 0, none⟩ : Addr).add j = ⟨g, j, none⟩ by unfold Addr.add; split <;> simp_all] at this
  exact this
end
theorem int_infoJ : (Tryz.prog.info? 3).map (fun i => (i.zero, i.size, i.bytes)) = some (some (.int .i64 0), 1, 8) := by kernel_rfl
/-- append of one int. -/
theorem run_appJ {B : Nat} {w : World} {v : Value} {L : List Int} {g : Nat} {i : Int} (hown : OwJ B w v L) (hc : w.cell? ⟨g, 0, none⟩ = some (ivJ i)) (hB : B ≤ w.heap.size) (hlen : L.length ≤ 1048576) (ty : TypeId) :
    ∃ v' w', (Builtin.append_ #[25, 25] ty #[v, .slice (some ⟨g, 0, none⟩) 1 1]).run Tryz.prog w = .ok v' w' ∧ OwJ B w' v' (L ++ [i]) ∧ w.grownBy w' v.ownBlock ∧ (v'.ownBlock = v.ownBlock ∨ v'.ownBlock = some w.heap.size) := by
  obtain ⟨i0, hi, hz0, hz1, hz2⟩ := info_parts int_infoJ
  obtain ⟨v', w', hr, ho, hg, _, hat⟩ := run_append_own_at (P := Tryz.prog) w B 25 ty 3 i0 (.int .i64 0) 1 8 Tryz.underlying25 hi hz0 hz1 hz2 rfl (by omega) v L.length (L.map ivJ) hown ⟨g, 0, none⟩ 1 1 [ivJ i]
    rfl (fun j u hj => by
      have : j = 0 := by
        rcases Nat.eq_zero_or_pos j with h | h
        · exact h
        · rw [List.getElem?_eq_none (by simp; omega)] at hj; cases hj
      subst this
      simp at hj
      rw [show (⟨g, 0, none⟩ : Addr).add 0 = ⟨g, 0, none⟩ by simp [Addr.add], hc, hj]) (fun u hu => by
      simp only [List.mem_singleton] at hu
      subst hu
      simp [ivJ, Value.oneCell']) (by unfold maxLen; omega) (by omega) hB
  refine ⟨v', w', hr, ?_, hg, hat⟩
  unfold OwJ
  rw [List.length_append, List.map_append]
  exact ho
theorem wpListIn_append_runJ {F : Fence} {n : Nat} {P : Program} {ops : Array Oper} {rest : List Oper} {o : Oper} {a : Act} {w w' : World} {Q : Exit → Act → World → Prop} (hgd : o.guard = none) (s x : Operand) (t : TypeId) (ho : o.op = .call { callee := .builtin .append, args := #[s, x], argTypes := #[t, t] })
    (v xv : Value) (hs : a.eval s = v) (hx : a.eval x = xv) {v' : Value} (hr : (Builtin.append_ #[t, t] o.type #[v, xv]).run P w = .ok v' w') (h : wpListIn F n P ops Q rest (a.put o.dst v') w') : wpListIn F n P ops Q (o :: rest) a w := by
  refine wpListIn_plain hgd fun K hK => ?_
  unfold Oper.wpIn
  refine ⟨?_, ?_⟩
  · simp [Oper.about, ho, resolve, Target.leads, Sem.run_pure]
  · rw [Oper.semAt_plain F _ _ (by rw [ho]; intro c hc'; cases hc')]
    simp [execOp, ho, resolve, invoke, builtin, hs, hx, hr, Result.andThen]
    exact hK _ _ h

/-- The box of the row that grows. -/
structure BxJ (B0 B : Nat) (w : World) (L : List Int) (A : Option Addr) (c : Nat) : Prop where
  box : w.cell? ⟨B, 0, none⟩ = some (.slice A L.length c)
  fz : w.frozen? ⟨B, 0, none⟩ = false
  row : OwJ B0 w (.slice A L.length c) L
  le : B0 ≤ w.heap.size
  nB : (Value.slice A L.length c).ownBlock ≠ some B
def bxO (B : Nat) (A : Option Addr) (n c : Nat) : Nat → Prop := fun k => k = B ∨ (Value.slice A n c).ownBlock = some k
section
variable {B0 B c : Nat} {w w' : World} {L : List Int} {A : Option Addr} {S : Nat → Prop}
theorem BxJ.off (h : BxJ B0 B w L A c) (ho : Off S w w') (hs : ∀ k, S k → ¬ bxO B A L.length c k) : BxJ B0 B w' L A c :=
  ⟨(ho.cell (p := ⟨B, 0, none⟩) (lt_of_cell h.box) (fun e => hs B e (.inl rfl))).trans h.box, (ho.frozen (p := ⟨B, 0, none⟩) (lt_of_cell h.box) (fun e => hs B e (.inl rfl))).trans h.fz,
    h.row.off ho (fun k e e2 => hs k e2 (.inr e)), Nat.le_trans h.le ho.size, h.nB⟩
theorem BxJ.lt (h : BxJ B0 B w L A c) {k : Nat} (hk : bxO B A L.length c k) : k < w.heap.size := by
  rcases hk with e | e
  · rw [e]; exact lt_of_cell h.box
  · exact (h.row.lt k e).2
theorem BxJ.next {wa : World} {x : Int} {g : Nat} (h : BxJ B0 B w L A c) (hb : Below w.heap.size w wa) (c0 : wa.cell? ⟨g, 0, none⟩ = some (.int .i64 x)) (hlen : L.length ≤ 1048576) (ty : TypeId) :
    ∃ A' c' w', (Builtin.append_ #[25, 25] ty #[.slice A L.length c, .slice (some ⟨g, 0, none⟩) 1 1]).run Tryz.prog wa = .ok (.slice A' (L.length + 1) c') w' ∧ w'.cell? ⟨B, 0, none⟩ = some (.slice A L.length c) ∧
      BxJ B0 B (w'.setCell ⟨B, 0, none⟩ (.slice A' (L.length + 1) c')) (L ++ [x]) A' c' ∧ Off (bxO B A L.length c) w (w'.setCell ⟨B, 0, none⟩ (.slice A' (L.length + 1) c')) ∧ ∀ k, bxO B A' (L.length + 1) c' k → bxO B A L.length c k ∨ w.heap.size ≤ k := by
  have ha := h.off (S := fun _ => False) (Off.of_below hb) (fun _ => False.elim)
  have hsz := hb.size
  obtain ⟨v', w', hr, ho, hg, hat⟩ := run_appJ ha.row c0 ha.le hlen ty
  obtain ⟨A', c', rfl, _⟩ := ho.form
  have hl : (L ++ [x]).length = L.length + 1 := by simp
  rw [hl] at hr ho hat
  have hof : Off (fun k => (Value.slice A L.length c).ownBlock = some k) wa w' := grown_off hg
  have hBw := lt_of_cell h.box
  have hbox : w'.cell? ⟨B, 0, none⟩ = some (.slice A L.length c) := (hof.cell (p := ⟨B, 0, none⟩) (lt_of_cell ha.box) (fun e => h.nB e)).trans ha.box
  have hfz : w'.frozen? ⟨B, 0, none⟩ = false := (hof.frozen (p := ⟨B, 0, none⟩) (lt_of_cell ha.box) (fun e => h.nB e)).trans ha.fz
  have hos : Off (· = B) w' (w'.setCell ⟨B, 0, none⟩ (.slice A' (L.length + 1) c')) := (Off.refl (· = B) w').setCell (p := ⟨B, 0, none⟩) rfl _
  have hnB : (Value.slice A' (L.length + 1) c').ownBlock ≠ some B := by
    rcases hat with e | e
    · rw [e]; exact h.nB
    · rw [e]; intro e2; injection e2 with e2; omega
  refine ⟨A', c', w', hr, hbox, ⟨by rw [hl]; exact World.cell?_setCell_same _ _ _ hbox, by rw [World.frozen?_setCell]; exact hfz, by rw [hl]; exact ho.off hos (fun k e e2 => hnB (by rw [← e2]; exact e)), Nat.le_trans ha.le (Nat.le_trans hof.size hos.size), by rw [hl]; exact hnB⟩,
    (((Off.of_below hb).mono (fun _ => False.elim)).trans (hof.mono fun k e => .inr e)).trans (hos.mono fun k e => .inl e), fun k e => ?_⟩
  rcases e with e | e
  · exact .inl (.inl e)
  · rcases hat with e2 | e2
    · rw [e2] at e; exact .inl (.inr e)
    · rw [e2] at e; injection e with e; exact .inr (by omega)
end
def fCoJ (a : List Int) (e : Int) : List Int × Bool := (a ++ [e], true)
def bxInv (B0 B : Nat) (w : World) (O1 : Nat → Prop) (a : List Int) : Prop := ∃ A c, BxJ B0 B w a A c ∧ ∀ k, O1 k ↔ bxO B A a.length c k
theorem foldJ (xs a : List Int) : xs.foldl (fun a k => (fCoJ a k).1) a = a ++ xs := by
  induction xs generalizing a with
  | nil => simp
  | cons x xs ih => rw [List.foldl_cons, ih]; simp [fCoJ]
/-- The deferred block is taken. -/
theorem leaves_endJ {P : Program} {fn : Func} {tmps : Array Value} {R : Ending → World → Prop} {F : Fence} {m D : Nat} {v : Value} {w : World} (hK : w.heap[D]? = some (.deferred (some []))) (hr : (results fn tmps).run P (w.putObj D (.deferred none)) = .ok v (w.putObj D (.deferred none))) (hR : R (.returned v) (w.putObj D (.deferred none))) :
    LeavesInM F m P fn tmps R [{ target := .collected D, args := #[] }] .returning w :=
  ⟨by simp, .inl ⟨D, _, rfl, run_takeDeferred hK, ⟨v, hr, hR⟩⟩⟩
theorem results_tmpJ {fn : Func} {p : Tmp} (h : fn.results = #[.tmp p]) (tmps : Array Value) (w : World) {v : Value} (hp : tmps.getD p undef = v) : (results fn tmps).run Tryz.prog w = .ok v w := by
  have hp2 : tmps[p]?.getD undef = v := by rw [← hp]; simp [Array.getD_eq_getD_getElem?]
  simp [results, h, hp2, Result.andThen]
/-- The keys, in some order, in a row of the call's own. -/
def KsPost (w : World) (f : Value → Option Value) (n : Nat) (e : Ending) (w' : World) : Prop :=
  ∃ A c xs, KsOf f n xs ∧ e = .returned (.slice A n c) ∧ OwJ w.heap.size w' (.slice A n c) xs ∧ Below w.heap.size w w'
set_option maxRecDepth 100000 in
set_option maxHeartbeats 4000000 in
theorem appSeqI_any {w : World} {b Mm n : Nat} {f : Value → Option Value} (c0 : w.cell? ⟨b, 0, none⟩ = some (.map (some Mm))) (hm : MapIs Tryz.prog 3 w Mm f n) (hk : ∀ key v, f key = some v → ∃ k, key = .int .i64 k) (hn : n ≤ 1000000) :
    Calls Tryz.prog 148 #[.slice none 0 0, .func (.func 111) #[] #[.pointer (some ⟨b, 0, none⟩)]] w (KsPost w f n) := by
  have l0 := lt_of_cell c0
  have C0 := Lib.hid c0
  have HM := Lib.hid hm
  have HK := Lib.hid hk
  have hMl := hm.lt
  clear c0 hm hk
  refine (callsIn_wide (n := 9)).1 ?_
  refine callsIn_of_wp_marks Tryz.func148 rfl trivial ?_ rfl
  simp only [Tryz.ntmps148, List.size_toArray, List.length_cons, List.length_nil, Nat.reduceAdd, Nat.reduceSub, Array.replicate_succ, Array.replicate_zero, List.push_toArray, List.append_toArray, List.nil_append, List.cons_append]
  refine wpIn_wide.2 ?_
  go_wp2_with fail
  have hb0 : Below w.heap.size w (w.alloc (.cells #[.slice none 0 0] 25)) := (Below.refl w.heap.size w).alloc (Nat.le_refl _) _
  have k2 := alloc_at w (.slice none 0 0) 25
  have hs0 : (w.alloc (.cells #[.slice none 0 0] 25)).heap.size = w.heap.size + 1 := by simp
  refine wp_forget (fun W => Below w.heap.size w W ∧ (W.cell? ⟨w.heap.size, 0, none⟩ = some (.slice none 0 0) ∧ W.frozen? ⟨w.heap.size, 0, none⟩ = false) ∧ W.heap.size = w.heap.size + 1) ⟨hb0, k2, hs0⟩ ?_
  clear hb0 k2 hs0
  rintro W0 ⟨hb0, ⟨k2, f2⟩, hs0⟩
  obtain ⟨B, hB⟩ : ∃ B, w.heap.size = B := ⟨_, rfl⟩
  have hiv0 : bxInv B B W0 (fun k => k = B) [] := by
    refine ⟨none, 0, ⟨by rw [← hB]; exact k2, by rw [← hB]; exact f2, OwJ.empty _ _, by omega, by simp [Value.ownBlock]⟩, fun k => ?_⟩
    unfold bxO
    simp [Value.ownBlock]
  have HIV := Lib.hid hiv0
  have HB0 := Lib.hid hb0
  clear hiv0 hb0 k2 f2
  refine (wpIn_wide (n := 9)).1 ?_
  refine range_gen (F := 111) (OS := fun _ => False) (Ov := fun k => k = B) rfl (ent_fn Tryz.func111 (by kernel_rfl) rfl) fCoJ (fun _ => true) argI ownI (fun _ _ _ => rfl) (fun a n => a.length + n ≤ 1000000) (fun a n m h hm => by omega) (fun a e n h => by simp only [fCoJ, List.length_append, List.length_cons, List.length_nil]; omega)
    (fun {W O e vs} h => by rw [h]; rfl) (fun {W O e vs k} h hk => hk.elim) (fun {S O O1 W W' e vs} h ho hs h1 => h)
    (bxInv B B) (fun _ _ _ _ => False) (fun {S O W W' x} h ho hs => by
      obtain ⟨A, c, hi, hO⟩ := h
      exact ⟨A, c, hi.off ho (fun k hk e2 => hs k hk ((hO k).2 e2)), hO⟩) (fun {O W x k} h hk => by
      obtain ⟨A, c, hi, hO⟩ := h
      exact hi.lt ((hO k).1 hk)) (fun {c S O W W' x} h _ _ => h) (fun {c O W x k} h _ => h.elim)
    [] n (by simp; exact hn) rfl HIV.out (fun k hk => hk.elim)
    (fun y W => KsOf f n y) (fun {y W W'} h hw ho => h) ?round ?seq ?fin
  case seq =>
    intro Y W1 O1 hb1 hiv hrd hO1
    have hbb : Below w.heap.size w W1 := HB0.out.trans (hb1.mono (by omega))
    have hd := keys1_any Y (fun _ _ => rfl) hiv hrd ((hbb.cell (p := ⟨b, 0, none⟩) l0).trans C0.out) (HM.out.off (S := fun _ => False) (Off.of_below hbb) id) HK.out ⟨fun e => by rcases hO1 b e with e2 | e2 <;> omega, fun e => by rcases hO1 Mm e with e2 | e2 <;> omega⟩
    refine hd.mono ?_
    rintro e W2 ⟨y, O2, hv, hi2, ⟨xs, hks, rfl⟩, ho2, hO2⟩
    rw [foldJ, List.nil_append] at hi2
    exact ⟨xs, O2, hv, hi2, hks, ho2.mono fun k e => .inr e, hO2⟩
  case round =>
    intro l x e vs W O1 hO1 hl hnl _ hrd ha
    cases ha
    gi_wp2
    refine ⟨Below.refl _ _, fun W2 ho hiv _ => ?_⟩
    obtain ⟨A, c, hI, hO⟩ := hiv
    have cB := hI.box
    have fB := hI.fz
    have lB := lt_of_cell cB
    have hwn : Below W2.heap.size W2 (W2.alloc (.cells #[.int .i64 e] 3)) := (Below.refl W2.heap.size W2).alloc (Nat.le_refl _) _
    obtain ⟨A', c', w', hr1, hcB, hn2, ho2, hg2⟩ := hI.next (x := e) (g := W2.heap.size) hwn (alloc_at W2 (.int .i64 e) 3).1 (by omega) 25
    have hfB : w'.frozen? ⟨B, 0, none⟩ = false := by have := hn2.fz; rwa [World.frozen?_setCell] at this
    have lB' := lt_of_cell hcB
    have HN := Lib.hid hn2
    have HO2 := Lib.hid ho2
    have HG2 := Lib.hid hg2
    have HO := Lib.hid hO
    have hsz2 := ho.size
    clear hn2 ho2 hg2 hO hI ho hO1 hrd hwn
    gi_wp2_with (gi_at_builtin; go_must (refine wpListIn_append_runJ rfl (.tmp 8) (.tmp 10) 25 rfl _ _ rfl rfl hr1 ?_))
    refine ⟨rfl, bxO B A' (x ++ [e]).length c', ⟨A', c', HN.out, fun k => Iff.rfl⟩, HO2.out.mono fun k e => .inl ((HO.out k).2 e), fun k e2 => ?_⟩
    rw [List.length_append, List.length_singleton] at e2
    rcases HG2.out k e2 with e2 | e2
    · exact .inl ((HO.out k).2 e2)
    · exact .inr (.inr (by omega))
  case fin =>
    intro D W4 O1 y hD hdf hrs hof hO1 hOD
    refine ⟨fun _ hiv => ?_, fun hal => by cases hal⟩
    obtain ⟨A, c, hi, hO⟩ := hiv
    have cB := hi.box
    have lB := lt_of_cell cB
    have HI := Lib.hid hi
    have HKS := Lib.hid hrs
    have HDF := Lib.hid hdf
    have HOF : Hid (Below w.heap.size w W4) := Lib.hid ((((Off.of_below HB0.out).mono (fun _ => False.elim)).late hof fun i hl e => e.elim id (fun e => by omega)).below (S := fun _ => False) (fun _ => False.elim) (Nat.le_refl _))
    have HO := Lib.hid hO
    have HO1 := Lib.hid hO1
    clear hi hrs hdf hof hO hO1
    go_wp2
    have oD := off_putObj W4 (l := D) (.deferred none)
    have hlen := HKS.out.len
    have hrow := HI.out.row
    rw [hlen] at hrow
    refine leaves_endJ HDF.out (results_tmpJ rfl _ _ rfl) ⟨A, c, y, HKS.out, by rw [hlen]; rfl, ?_, HOF.out.trans (oD.below (fun k e => by rw [e]; omega) HOF.out.size)⟩
    rw [hB]
    exact hrow.off oD (fun k e e2 => by
      subst e2
      exact hOD ((HO.out k).2 (.inr (by rw [hlen]; exact e))))
end Go.Proofs.YtlhfjaagkgengaaGreat
namespace Go.Proofs
open Go.Shelf
shelf_lay Lays.n189 Nm 189 at Tryz as Tryz.sortJ
end Go.Proofs
namespace Go.Proofs.YtlhfjaagkgengaaGreat
open Go.RowKit Go.Maps Go.Shelf Go.Sort
set_option linter.unusedVariables false
set_option linter.unusedSimpArgs false
/-- A row of ints, to be read. -/
structure JAt (w : World) (A : Option Addr) (L : List Int) : Prop where
  at_ : 0 < L.length → ∃ g o, A = some ⟨g, o, none⟩ ∧ g < w.heap.size ∧ ∀ (i : Nat) (x : Int), L[i]? = some x → w.cell? ⟨g, o + i, none⟩ = some (.int .i64 x)
def jO (A : Option Addr) (n : Nat) (k : Nat) : Prop := 0 < n ∧ ∃ o, A = some ⟨k, o, none⟩
section
variable {w w' : World} {A : Option Addr} {L : List Int} {S : Nat → Prop}
theorem JAt.off (h : JAt w A L) (ho : Off S w w') (hs : ∀ k, S k → ¬ jO A L.length k) : JAt w' A L := ⟨fun hp => by
  obtain ⟨g, o, rfl, hg, hc⟩ := h.at_ hp
  have hng : ¬ S g := fun e => hs g e ⟨hp, o, rfl⟩
  exact ⟨g, o, rfl, Nat.lt_of_lt_of_le hg ho.size, fun i x hx => (ho.cell (p := ⟨g, _, none⟩) hg hng).trans (hc i x hx)⟩⟩
theorem JAt.up (h : JAt w A L) (hb : Below w.heap.size w w') : JAt w' A L := h.off (S := fun _ => False) (Off.of_below hb) (fun _ => False.elim)
theorem JAt.lt (h : JAt w A L) {k : Nat} (hk : jO A L.length k) : k < w.heap.size := by
  obtain ⟨hp, o, rfl⟩ := hk
  obtain ⟨g, o', e, hg, _⟩ := h.at_ hp
  cases e
  exact hg
end
theorem holdsJ {B : Nat} {w : World} {G n c : Nat} {L : List Int} (h : OwJ B w (.slice (some ⟨G, 0, none⟩) n c) L) (hn : n = L.length) : Holds (Value.int .i64) w G 0 L.toArray := fun j hj => by
  subst hn
  have hj' : j < L.length := by simpa using hj
  refine ⟨?_, World.ownsRow.frozenAt h _⟩
  rw [Nat.zero_add, getElem!_pos L.toArray j hj]
  exact h.cell (g := G) rfl (by simp [hj'])
theorem jAt_of_holds {w : World} {G : Nat} {L : List Int} (hG : G < w.heap.size) (h : Holds (Value.int .i64) w G 0 L.toArray) : JAt w (some ⟨G, 0, none⟩) L := ⟨fun _ => ⟨G, 0, rfl, hG, fun i x hx => by
  have hi := (List.getElem?_eq_some_iff.1 hx).1
  have := (h i (by simpa using hi)).1
  rw [getElem!_pos L.toArray i (by simpa using hi)] at this
  rw [this]
  have e := (List.getElem?_eq_some_iff.1 hx).2
  simp [e]⟩⟩
theorem off_putRowJ (w : World) (G o : Nat) (F : Array Int) : Off (· = G) w (putRow (Value.int .i64) w G o F) := by
  unfold putRow mapBlock
  exact ⟨rfl, rfl, rfl, by simp, fun k hk hn => by simp [Array.getElem?_modify, Ne.symm hn]⟩
theorem off_growJ (w : World) (os : Array Obj) : Off (fun _ => False) w (grow w os) := ⟨rfl, rfl, rfl, by simp [grow], fun k hk _ => by simp [grow, Array.getElem?_append, hk]⟩
def srtJ (L : List Int) : List Int := L.mergeSort fun x y => decide (x ≤ y)
theorem srtJ_perm (L : List Int) : (srtJ L).Perm L := List.mergeSort_perm L _
theorem srtJ_pair {L : List Int} (h : L.Nodup) : (srtJ L).Pairwise (fun x y => x < y) := by
  have hs : (srtJ L).Pairwise (fun x y => decide (x ≤ y) = true) := by
    refine List.pairwise_mergeSort (fun a b c h1 h2 => ?_) (fun a b => ?_) L
    · have := of_decide_eq_true h1; have := of_decide_eq_true h2; exact decide_eq_true (by omega)
    · by_cases h : a ≤ b
      · rw [decide_eq_true h]; rfl
      · rw [decide_eq_true (show b ≤ a by omega)]; simp
  have hn : (srtJ L).Pairwise (fun x y => x ≠ y) := (srtJ_perm L).symm.nodup h
  exact (hs.and hn).imp fun {a b} ⟨h1, h2⟩ => by have := of_decide_eq_true h1; omega
theorem KsOf.perm {f : Value → Option Value} {n : Nat} {xs ys : List Int} (h : KsOf f n xs) (hp : ys.Perm xs) : KsOf f n ys := ⟨hp.symm.nodup h.nd, fun k => (hp.mem_iff).trans (h.mem k), hp.length_eq.trans h.len⟩
theorem sortI_any (w : World) {B n c : Nat} {A : Option Addr} {L : List Int} (hL : OwJ B w (.slice A n c) L) (hn : n = L.length) (hsz : L.length ≤ 1000000) :
    Calls Tryz.prog 110 #[.slice A n c] w fun e w' => e = .returned (.tuple #[]) ∧ JAt w' A (srtJ L) ∧ Off (fun k => (Value.slice A n c).ownBlock = some k) w w' := by
  subst hn
  cases L with
  | nil =>
    refine (Any.slices_Sort_int_none Tryz.sortJ A c w).mono ?_
    rintro e w' ⟨rfl, rfl⟩
    exact ⟨rfl, ⟨fun h => by simp [srtJ] at h⟩, Off.refl _ _⟩
  | cons x M =>
    obtain ⟨G, cap, hG, _⟩ := World.ownsRow.form hL (by simp)
    cases hG
    have hGl := (hL.lt G rfl).2
    have h0 := holdsJ hL rfl
    refine (Any.slices_Sort_int Tryz.sortJ G 0 c (x :: M) w h0 hGl (by omega)).mono ?_
    rintro e w' ⟨rfl, m, os, rfl⟩
    have h1 : Holds (Value.int .i64) (putRow (Value.int .i64) (Sort.ahead w m) G 0 (srtJ (x :: M)).toArray) G 0 (srtJ (x :: M)).toArray := holds_putRow _ _ G 0 (x :: M).toArray (srtJ (x :: M)).toArray h0 (by simp [(srtJ_perm (x :: M)).length_eq])
    have o1 : Off (· = G) w (putRow (Value.int .i64) (Sort.ahead w m) G 0 (srtJ (x :: M)).toArray) := (show Off (· = G) w (Sort.ahead w m) from ⟨rfl, rfl, rfl, Nat.le_refl _, fun _ _ _ => rfl⟩).trans (off_putRowJ (Sort.ahead w m) G 0 _)
    have h2 := jAt_of_holds (Nat.lt_of_lt_of_le hGl o1.size) h1
    exact ⟨rfl, h2.off (off_growJ _ os) (fun _ => False.elim), (o1.mono fun k e => by show some G = some k; rw [e]).trans ((off_growJ _ os).mono fun _ => False.elim)⟩
/-- The keys, rising. -/
def SdPost (w : World) (f : Value → Option Value) (n : Nat) (e : Ending) (w' : World) : Prop :=
  ∃ A c ks, (KsOf f n ks ∧ ks.Pairwise (fun x y => x < y)) ∧ e = .returned (.slice A n c) ∧ JAt w' A ks ∧ Below w.heap.size w w' ∧ ∀ k, jO A n k → w.heap.size ≤ k
section
variable {w : World} {b Mm n : Nat} {f : Value → Option Value}
theorem collectI_any (c0 : w.cell? ⟨b, 0, none⟩ = some (.map (some Mm))) (hm : MapIs Tryz.prog 3 w Mm f n) (hk : ∀ key v, f key = some v → ∃ k, key = .int .i64 k) (hn : n ≤ 1000000) :
    Calls Tryz.prog 109 #[.func (.func 111) #[] #[.pointer (some ⟨b, 0, none⟩)]] w (KsPost w f n) := by
  have HA := Lib.hid (appSeqI_any c0 hm hk hn)
  clear c0 hm hk
  go_enter Tryz.func109, Tryz.ntmps109
  go_wp2_with (go_at_call 148; refine HA.out.mono ?_; rintro e w1 ⟨A, c, xs, hks, rfl, how, hb⟩)
  go_ret
  exact ⟨A, c, xs, hks, rfl, how, hb⟩
theorem sortedI_any (c0 : w.cell? ⟨b, 0, none⟩ = some (.map (some Mm))) (hm : MapIs Tryz.prog 3 w Mm f n) (hk : ∀ key v, f key = some v → ∃ k, key = .int .i64 k) (hn : n ≤ 1000000) :
    Calls Tryz.prog 67 #[.func (.func 111) #[] #[.pointer (some ⟨b, 0, none⟩)]] w (SdPost w f n) := by
  have HA := Lib.hid (collectI_any c0 hm hk hn)
  clear c0 hm hk
  go_enter Tryz.func67, Tryz.ntmps67
  go_wp2_with fail
  refine HA.out.mono ?_
  rintro e w1 ⟨A, c, xs, hks, rfl, how, hb⟩
  have HS := Lib.hid (sortI_any w1 how hks.len.symm (by rw [hks.len]; exact hn))
  have HB := Lib.hid hb
  have HKS := Lib.hid hks
  have HOW := Lib.hid how
  clear hks how hb
  go_wp2_with (go_at_call 110; refine HS.out.mono ?_; rintro e w2 ⟨rfl, hj, ho⟩; have HJ := Lib.hid hj; have HO := Lib.hid ho; clear hj ho)
  go_ret
  refine ⟨A, c, srtJ xs, ⟨HKS.out.perm (srtJ_perm xs), srtJ_pair HKS.out.nd⟩, rfl, HJ.out, HB.out.trans (HO.out.below (fun k e => (HOW.out.lt k e).1) HB.out.size), fun k hk => ?_⟩
  obtain ⟨_, o, rfl⟩ := hk
  obtain ⟨A', c', e, _, _, hh⟩ := HOW.out.form
  cases e
  exact (HOW.out.lt k (hh k o rfl).2).1
end
def KyPost (w : World) (Mm : Nat) (e : Ending) (w' : World) : Prop :=
  e = .returned (.func (.func 111) #[] #[.pointer (some ⟨w.heap.size, 0, none⟩)]) ∧ Below w.heap.size w w' ∧ w'.cell? ⟨w.heap.size, 0, none⟩ = some (.map (some Mm))
theorem keysI_any (w : World) (Mm : Nat) : Calls Tryz.prog 68 #[.map (some Mm)] w (KyPost w Mm) := by
  go_enter Tryz.func68, Tryz.ntmps68
  go_wp2
  go_ret
  exact ⟨rfl, (Below.refl _ _).alloc (Nat.le_refl _) _, (alloc_at w (.map (some Mm)) 112).1⟩
end Go.Proofs.YtlhfjaagkgengaaGreat
