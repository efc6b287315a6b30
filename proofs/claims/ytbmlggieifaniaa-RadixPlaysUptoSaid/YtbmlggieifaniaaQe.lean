/- radix: a range over the pairs of a root. -/
import Derived.Test.YtbmlggieifaniaaOo
namespace Go.Proofs.Ytbmlggieifaniaa
open Go.RowKit
set_option linter.unusedVariables false
set_option linter.unusedSimpArgs false

theorem off_putObj (W : World) {l : Nat} (o : Obj) : Off (· = l) W (W.putObj l o) :=
  ⟨rfl, rfl, rfl, by simp, fun i _ hn => World.putObj_heap_other hn⟩
/-- How a round's body may be left. -/
def bdPost {α : Type} (al : α → Bool) (Iv : World → (Nat → Prop) → α → Prop) (Ix : Code → World → (Nat → Prop) → α → Prop) (O1 : Nat → Prop) (W : World) (y : α) : Exit → Act → World → Prop
  | .normal, _, W' => al y = true ∧ ∃ O' : Nat → Prop, Iv W' O' y ∧ Off O1 W W' ∧ ∀ k, O' k → O1 k ∨ W.heap.size ≤ k
  | .ret, _, W' => al y = false ∧ ∃ O' : Nat → Prop, Ix .ret W' O' y ∧ Off O1 W W' ∧ ∀ k, O' k → O1 k ∨ W.heap.size ≤ k
  | .exit id, _, W' => al y = false ∧ ∃ O' : Nat → Prop, Ix (.exit id) W' O' y ∧ Off O1 W W' ∧ ∀ k, O' k → O1 k ∨ W.heap.size ≤ k
  | .goto t, _, W' => al y = false ∧ ∃ O' : Nat → Prop, Ix (.goto t) W' O' y ∧ Off O1 W W' ∧ ∀ k, O' k → O1 k ∨ W.heap.size ≤ k
  | .panic _, _, _ => False
  | .outgrown, _, _ => False
/-- A loop's rounds. -/
structure LpAt {α : Type} (al : α → Bool) (Iv : World → (Nat → Prop) → α → Prop) (Ix : Code → World → (Nat → Prop) → α → Prop) (rec : LoopState → Option Code → Loop) (L D : Nat) (w : World) (O : Nat → Prop) (a : α) (O1 : Nat → Prop) : Prop where
  eqO : ∀ k, O k ↔ O1 k ∨ k = L ∨ k = D
  nL : ¬ O1 L
  nD : ¬ O1 D
  df : w.heap[D]? = some (.deferred (some []))
  yes : al a = true → Iv w O1 a ∧ w.heap[L]? = some (.loop (rec .ready none))
  no : al a = false → ∃ c, Ix c w O1 a ∧ w.heap[L]? = some (.loop (rec .done (some c)))
theorem heap_off {S : Nat → Prop} {w w' : World} {k : Nat} {o : Obj} (h : w.heap[k]? = some o) (ho : Off S w w') (hs : ¬ S k) : w'.heap[k]? = some o := (ho.block k (Array.getElem?_eq_some_iff.1 h).1 hs).trans h
set_option maxHeartbeats 4000000 in
theorem range_pairs {σ α : Type} {K : SnkF σ} {M : Snk K} (hK : K.Good) {g : Operand} {ps : Array Tmp} {assign body : Code} {Q : Exit → Act → World → Prop} {a : Act} {w : World} {B2 B3 T : Nat} {O Ov : Nat → Prop} {s : σ} {p : Int} {r : Int × Int}
    (hg : a.eval g = .func (.func 30) #[] #[.pointer (some ⟨B2, 0, none⟩), .pointer (some ⟨B3, 0, none⟩)]) (hps : ps.size = 2)
    (f : α → Nat → Bytes → α × Bool) (al : α → Bool) (hal : ∀ x k v, al x = true → (f x k v).2 = al (f x k v).1)
    (Iv : World → (Nat → Prop) → α → Prop) (Ix : Code → World → (Nat → Prop) → α → Prop)
    (ivOff : ∀ {S O : Nat → Prop} {w w' : World} {x : α}, Iv w O x → Off S w w' → (∀ k, S k → ¬ O k) → Iv w' O x) (ivLt : ∀ {O : Nat → Prop} {w : World} {x : α} {k : Nat}, Iv w O x → O k → k < w.heap.size)
    (ixOff : ∀ {c : Code} {S O : Nat → Prop} {w w' : World} {x : α}, Ix c w O x → Off S w w' → (∀ k, S k → ¬ O k) → Ix c w' O x) (ixLt : ∀ {c : Code} {O : Nat → Prop} {w : World} {x : α} {k : Nat}, Ix c w O x → O k → k < w.heap.size)
    (a₁ : Nat → Value → Act) (x0 : α) (hx0 : al x0 = true)
    (h : TrAt M w T O s p) (hi : Iv w Ov x0) (hr : K.Rdy s 0) (d1 : ∀ k, O k → ¬ Ov k) (d2 : ¬ Ov T)
    (c2 : w.cell? ⟨B2, 0, none⟩ = some (.pointer (some ⟨T, 0, none⟩))) (c3 : BoxA w B3 r)
    (hassign : ∀ (l : Nat) (key : Nat) (v : Value) (W : World) (K : Act → World → Prop), K (a₁ key v) W →
      assign.wpIn (Fence.wide.inRound l) 8 Try.prog (Exit.then K (fun _ _ _ => False)) { tmps := (ps.zip #[.int .i64 (key : Nat), v]).foldl (fun t (p, v) => t.setIfInBounds p v) a.tmps, defers := [] } W)
    (hbody : ∀ (l : Nat) (x : α) (key : Nat) (v : Value) (Lb : Bytes) (W : World) (O1 : Nat → Prop), Iv W O1 x → al x = true → key < 16777216 → SlB W v Lb → Lb.length ≤ 256 → VIn (fun b => ¬ O1 b) v → body.wpIn (Fence.wide.inRound l) 8 Try.prog (bdPost al Iv Ix O1 W (f x key Lb).1) (a₁ key v) W)
    (hend : ∀ (D : Nat) (W : World) (O1 : Nat → Prop) (y : WkSt σ α × Bool × Int), y = walkF K (pairsC f) 7 (s, 1048576, x0) r 0 0 → w.heap.size ≤ D → W.heap[D]? = some (.deferred (some [])) → TrAt M W T O y.1.1 p → Off (fun k => O k ∨ Ov k) w W → (∀ k, O1 k → Ov k ∨ w.heap.size ≤ k) →
      (al y.1.2.2 = true → Iv W O1 y.1.2.2 → Q .normal { a with defers := { target := .collected D, args := #[] } :: a.defers } W) ∧
      (al y.1.2.2 = false → ∀ c, Ix c W O1 y.1.2.2 → c.wpIn Fence.wide 9 Try.prog Q { a with defers := { target := .collected D, args := #[] } :: a.defers } W)) :
    (Code.rangeFunc g ps assign body).wpIn Fence.wide 9 Try.prog Q a w := by
  refine wpIn_rangeFunc ?_
  intro fn hfn
  obtain ⟨rec, hrec⟩ : ∃ rec : LoopState → Option Code → Loop, rec = fun st pe => { state := st, pending := pe, fn, tmps := a.tmps, params := ps, assign, body, defers := w.heap.size } := ⟨_, rfl⟩
  obtain ⟨W1, hW1⟩ : ∃ W1, (w.alloc (.deferred (some []))).alloc (.loop (rec .ready none)) = W1 := ⟨_, rfl⟩
  have hL1 : W1.heap[w.heap.size + 1]? = some (.loop (rec .ready none)) := by
    rw [← hW1]; have := World.alloc_heap_new (w.alloc (.deferred (some []))) (.loop (rec .ready none)); rwa [World.size_alloc] at this
  have hK1 : W1.heap[w.heap.size]? = some (.deferred (some [])) := by
    rw [← hW1]; exact (Below.heap_alloc _ _ _ (by simp)).trans (World.alloc_heap_new w _)
  have hb1 : Below w.heap.size w W1 := by
    rw [← hW1]; exact ((Below.refl _ w).alloc (Nat.le_refl _) _).alloc (by simp) _
  obtain ⟨L, hL⟩ : ∃ L, w.heap.size + 1 = L := ⟨_, rfl⟩
  obtain ⟨D, hD⟩ : ∃ D, w.heap.size = D := ⟨_, rfl⟩
  have hOlt : ∀ k, O k → k < w.heap.size := fun k hk => M.lt h.at_ hk
  have hVlt : ∀ k, Ov k → k < w.heap.size := fun k hk => ivLt hi hk
  have hTlt := h.lt
  let Y : Yld f := {
    l := L
    Iv := fun w O x => ∃ O1, LpAt al Iv Ix rec L D w O x O1
    Rdy := fun x _ => al x = true
    mono := fun x n m h _ => h
    step := fun x k v n h h2 => (hal x k v h).symm.trans h2
    off := fun {S O w w' x} h ho hs => by
      obtain ⟨O1, k⟩ := h
      have hs1 : ∀ k', S k' → ¬ O1 k' := fun k' e e2 => hs k' e ((k.eqO k').2 (.inl e2))
      exact ⟨O1, k.eqO, k.nL, k.nD, heap_off k.df ho (fun e => hs D e ((k.eqO D).2 (.inr (.inr rfl)))), fun e => ⟨ivOff (k.yes e).1 ho hs1, heap_off (k.yes e).2 ho (fun e => hs L e ((k.eqO L).2 (.inr (.inl rfl))))⟩, fun e => by
        obtain ⟨c, i1, i2⟩ := k.no e
        exact ⟨c, ixOff i1 ho hs1, heap_off i2 ho (fun e => hs L e ((k.eqO L).2 (.inr (.inl rfl))))⟩⟩
    lt := fun {O w x k} h hk => by
      obtain ⟨O1, hh⟩ := h
      rcases (hh.eqO k).1 hk with e | e | e
      · cases hx : al x with
        | true => exact ivLt (hh.yes hx).1 e
        | false => obtain ⟨c, i1, _⟩ := hh.no hx; exact ixLt i1 e
      · rw [e]
        cases hx : al x with
        | true => exact (Array.getElem?_eq_some_iff.1 (hh.yes hx).2).1
        | false => obtain ⟨c, _, i2⟩ := hh.no hx; exact (Array.getElem?_eq_some_iff.1 i2).1
      · rw [e]; exact (Array.getElem?_eq_some_iff.1 hh.df).1
    call := fun {W O x key v Lb} h hx hk hs hLb hv => by
      obtain ⟨O1, hh⟩ := h
      obtain ⟨hiv, hl⟩ := hh.yes hx
      have hy := run_yield (P := Try.prog) (args := #[.int .i64 (key : Nat), v]) hl (by rw [hrec]; exact hps.symm)
      rw [hrec] at hy
      refine ⟨fn, _, assign, body, hy, roundIn_of_wpIn hfn (hassign _ key v W _ ⟨_, run_beginRound hl (by rw [hrec]), ?_⟩)⟩
      clear hy
      have hlt : L < W.heap.size := (Array.getElem?_eq_some_iff.1 hl).1
      have hbusy := off_putObj W (l := L) (.loop { rec .ready none with state := .busy })
      have hl2 : (W.putObj L (.loop { rec .ready none with state := .busy })).heap[L]? = some (.loop { rec .ready none with state := .busy }) := World.putObj_heap_same hlt
      have hvL : VIn (fun b => ¬ b = L) v := hv.mono fun b hb e => hb (by rw [e]; exact (hh.eqO L).2 (.inr (.inl rfl)))
      have hb2 := hbody L x key v Lb _ O1 (ivOff hiv hbusy (fun k e e2 => hh.nL (by rw [← e]; exact e2))) hx hk (hs.offP hbusy hvL) hLb (hv.mono fun b hb e => hb ((hh.eqO b).2 (.inl e)))
      have hLD : L ≠ D := by omega
      have hd2 : (W.putObj L (.loop { rec .ready none with state := .busy })).heap[D]? = some (.deferred (some [])) := heap_off hh.df hbusy (fun e => hLD e.symm)
      have hsz2 : (W.putObj L (.loop { rec .ready none with state := .busy })).heap.size = W.heap.size := by simp
      generalize W.putObj L (.loop { rec .ready none with state := .busy }) = Wb at *
      refine wpIn_mono hb2 ?_
      have hal2 := hal x key Lb hx
      generalize f x key Lb = y at *
      have fin : ∀ (jump : Option Code) (W3 : World), Off O1 Wb W3 →
          (Instr.endRound L jump).run Try.prog W3 = .ok (.bool jump.isNone) (W3.putObj L (.loop (rec (if jump.isNone then .ready else .done) jump))) ∧
          (W3.putObj L (.loop (rec (if jump.isNone then .ready else .done) jump))).heap[L]? = some (.loop (rec (if jump.isNone then .ready else .done) jump)) ∧
          (W3.putObj L (.loop (rec (if jump.isNone then .ready else .done) jump))).heap[D]? = some (.deferred (some [])) ∧ Off (· = L) W3 (W3.putObj L (.loop (rec (if jump.isNone then .ready else .done) jump))) := fun jump W3 ho3 => by
        have hl3 := heap_off hl2 ho3 hh.nL
        have := run_endRound (P := Try.prog) jump hl3
        rw [hrec] at this ⊢
        exact ⟨this, World.putObj_heap_same (Array.getElem?_eq_some_iff.1 hl3).1, heap_off (heap_off hd2 ho3 hh.nD) (off_putObj W3 _) (fun e => hLD e.symm), off_putObj W3 _⟩
      have hoff : ∀ {W3 W4 : World}, Off O1 Wb W3 → Off (· = L) W3 W4 → Off O W W4 := fun h3 h4 =>
        ((hbusy.mono (fun k e => by rw [e]; exact (hh.eqO L).2 (.inr (.inl rfl)))).trans (h3.mono fun k e => (hh.eqO k).2 (.inl e))).trans (h4.mono (fun k e => by rw [e]; exact (hh.eqO L).2 (.inr (.inl rfl))))
      have hgrow : ∀ {O' : Nat → Prop}, (∀ k, O' k → O1 k ∨ Wb.heap.size ≤ k) → ¬ O' L ∧ ¬ O' D ∧ ∀ k, (O' k ∨ k = L ∨ k = D) → O k ∨ W.heap.size ≤ k := fun hO' =>
        ⟨fun e => (hO' L e).elim hh.nL (fun e => by omega), fun e => (hO' D e).elim hh.nD (fun e => by have := (Array.getElem?_eq_some_iff.1 hh.df).1; omega), fun k e => by
          rcases e with e | e
          · exact (hO' k e).imp (fun e => (hh.eqO k).2 (.inl e)) (fun e => by omega)
          · exact .inl ((hh.eqO k).2 (.inr e))⟩
      have stop : ∀ (c : Code) (W3 : World) (O' : Nat → Prop), al y.1 = false → Ix c W3 O' y.1 → Off O1 Wb W3 → (∀ k, O' k → O1 k ∨ Wb.heap.size ≤ k) → ∃ v w', (Instr.endRound L (some c)).run Try.prog W3 = .ok v w' ∧ VsPost (fun w O x => ∃ O1, LpAt al Iv Ix rec L D w O x O1) W O y (.returned v) w' := fun c W3 O' hf hix ho3 hO' => by
        obtain ⟨e1, e2, e3, e4⟩ := fin (some c) W3 ho3
        obtain ⟨n1, n2, n3⟩ := hgrow hO'
        refine ⟨_, _, e1, fun k => O' k ∨ k = L ∨ k = D, by rw [hal2, hf]; rfl, ⟨O', fun k => Iff.rfl, n1, n2, e3, (fun e => by rw [hf] at e; cases e), fun _ => ⟨c, ixOff hix e4 (fun k e e2 => n1 (by rw [← e]; exact e2)), e2⟩⟩, hoff ho3 e4, n3⟩
      rintro e a3 W3 hp
      cases e with
      | normal =>
        obtain ⟨hf, O', hix, ho3, hO'⟩ := hp
        obtain ⟨e1, e2, e3, e4⟩ := fin none W3 ho3
        obtain ⟨n1, n2, n3⟩ := hgrow hO'
        exact ⟨_, _, e1, fun k => O' k ∨ k = L ∨ k = D, by rw [hal2, hf]; rfl, ⟨O', fun k => Iff.rfl, n1, n2, e3, fun _ => ⟨ivOff hix e4 (fun k e e2 => n1 (by rw [← e]; exact e2)), e2⟩, (fun e => by rw [hf] at e; cases e)⟩, hoff ho3 e4, n3⟩
      | ret => obtain ⟨hf, O', hix, ho3, hO'⟩ := hp; exact stop .ret W3 O' hf hix ho3 hO'
      | exit id => obtain ⟨hf, O', hix, ho3, hO'⟩ := hp; exact stop (.exit id) W3 O' hf hix ho3 hO'
      | goto t => obtain ⟨hf, O', hix, ho3, hO'⟩ := hp; exact stop (.goto t) W3 O' hf hix ho3 hO'
      | panic ch => exact hp.elim
      | outgrown => exact hp.elim }
  refine ⟨L, [{ target := .collected w.heap.size, args := #[] }], W1, { target := .fn (.func 30) #[.pointer (some ⟨B2, 0, none⟩), .pointer (some ⟨B3, 0, none⟩)], args := #[.func (.yield L) #[] #[]] }, W1, 30,
    #[.func (.yield L) #[] #[]] ++ #[.pointer (some ⟨B2, 0, none⟩), .pointer (some ⟨B3, 0, none⟩)], W1, ?_, ?_, ?_, ?_, fun _ => by omega, ?_⟩
  · rw [← hW1, hrec, ← hL]; exact run_enterLoop_outer _ _ _ _ _
  · simp only [resolve, hg]
    simp [go_sem]
  · intro f' hf'; trivial
  · have eg := ent_fn (P := Try.prog) Try.func30 (by kernel_rfl) rfl
    simp [invoke, go_sem, eg]
  · have hivY : Y.Iv W1 (fun k => Ov k ∨ k = L ∨ k = D) x0 := ⟨Ov, fun k => Iff.rfl, fun e => by have := hVlt _ e; omega, fun e => by have := hVlt _ e; omega, by rw [← hD]; exact hK1, fun _ => ⟨ivOff hi (Off.of_below (S := fun _ => False) hb1) (fun _ => False.elim), by rw [← hL]; exact hL1⟩, fun e => by rw [hx0] at e; cases e⟩
    have l2 := lt_of_cell c2
    have l3 := c3.lt
    have hsq := all1_any (M := M) hK Y (w := W1) (h.up hb1) hivY hr hx0 (fun k hk e => by
      have := hOlt k hk
      rcases e with e | e | e
      · exact d1 k hk e
      · omega
      · omega) (fun e => by
      rcases e with e | e | e
      · exact d2 e
      · omega
      · omega) ((hb1.cell (p := ⟨B2, 0, none⟩) l2).trans c2) ((hb1.cell (p := ⟨B3, 0, none⟩) l3).trans c3.1) ((hb1.cell (p := ⟨B3, 1, none⟩) l3).trans c3.2.1)
    refine (callsIn_wide.2 hsq).mono ?_
    rintro e W2 ⟨Ov', ⟨v, rfl⟩, htr, ⟨O1, hh⟩, hof, hO'⟩
    have hofw : Off (fun k => O k ∨ Ov k) w W2 := ((Off.of_below hb1).mono (fun _ => False.elim)).late hof fun i hl hi => by
      rcases hi with e | e | e | e
      · exact .inl e
      · exact .inr e
      · omega
      · omega
    have hO1 : ∀ k, O1 k → Ov k ∨ w.heap.size ≤ k := fun k e => by
      have := hb1.size
      rcases hO' k ((hh.eqO k).2 (.inl e)) with (e2 | e2 | e2) | e2
      · exact .inl e2
      · exact .inr (by omega)
      · exact .inr (by omega)
      · exact .inr (by omega)
    have hLD : L ≠ D := by omega
    have endL : ∀ (st : LoopState) (pe : Option Code), W2.heap[L]? = some (.loop (rec st pe)) → st ≠ .busy → ∃ W3, (Instr.endLoop L).run Try.prog W2 = .ok pe W3 ∧ Off (· = L) W2 W3 := fun st pe hl hst => by
      have := run_endLoop (P := Try.prog) hl (by rw [hrec]; exact hst)
      rw [hrec] at this
      exact ⟨_, this, off_putObj W2 _⟩
    obtain ⟨y, hy⟩ : ∃ y, y = walkF K (pairsC f) 7 (s, 1048576, x0) r 0 0 := ⟨_, rfl⟩
    rw [← hy] at htr hh
    cases hx : al y.1.2.2 with
    | true =>
      obtain ⟨i1, i2⟩ := hh.yes hx
      obtain ⟨W3, e1, e2⟩ := endL _ _ i2 (by simp)
      refine ⟨none, W3, e1, ?_⟩
      rw [hD]
      have hOL : ¬ O L := fun e => by have := hOlt _ e; omega
      exact (hend D W3 O1 y hy (by omega) (heap_off hh.df e2 (fun e => hLD e.symm)) (htr.off e2 (fun k e e3 => hOL (by rw [← e]; exact e3)) (by omega)) (hofw.late e2 fun i hl e => by omega) hO1).1 hx (ivOff i1 e2 (fun k e e3 => hh.nL (by rw [← e]; exact e3)))
    | false =>
      obtain ⟨c, i1, i2⟩ := hh.no hx
      obtain ⟨W3, e1, e2⟩ := endL _ _ i2 (by simp)
      refine ⟨some c, W3, e1, ?_⟩
      rw [hD]
      have hOL : ¬ O L := fun e => by have := hOlt _ e; omega
      exact (hend D W3 O1 y hy (by omega) (heap_off hh.df e2 (fun e => hLD e.symm)) (htr.off e2 (fun k e e3 => hOL (by rw [← e]; exact e3)) (by omega)) (hofw.late e2 fun i hl e => by omega) hO1).2 hx c (ixOff i1 e2 (fun k e e3 => hh.nL (by rw [← e]; exact e3)))
end Go.Proofs.Ytbmlggieifaniaa
