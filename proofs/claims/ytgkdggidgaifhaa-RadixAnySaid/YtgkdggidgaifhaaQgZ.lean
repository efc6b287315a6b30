/- radix's laws: Same. -/
import Derived.Test.YtgkdggidgaifhaaMC
namespace Go.Proofs.Ytgkdggidgaifhaa
open Go.RowKit Go.Maps
set_option linter.unusedVariables false
set_option linter.unusedSimpArgs false

/-! in a round's frame an operation is what it is elsewhere -/
@[simp, go_sem] theorem semAt_assign (l : Nat) (ρ : Operand → Value) x d ty po af gd : Oper.semAt (some l) ρ { dst := d, op := .assign x, type := ty, pos := po, after := af, guard := gd } = execOp ρ { dst := d, op := .assign x, type := ty, pos := po, after := af, guard := gd } := Oper.semAt_some l _ _ (fun c h => by cases h)
@[simp, go_sem] theorem semAt_move (l : Nat) (ρ : Operand → Value) x d ty po af gd : Oper.semAt (some l) ρ { dst := d, op := .move x, type := ty, pos := po, after := af, guard := gd } = execOp ρ { dst := d, op := .move x, type := ty, pos := po, after := af, guard := gd } := Oper.semAt_some l _ _ (fun c h => by cases h)
@[simp, go_sem] theorem semAt_load (l : Nat) (ρ : Operand → Value) t1 x d ty po af gd : Oper.semAt (some l) ρ { dst := d, op := .load t1 x, type := ty, pos := po, after := af, guard := gd } = execOp ρ { dst := d, op := .load t1 x, type := ty, pos := po, after := af, guard := gd } := Oper.semAt_some l _ _ (fun c h => by cases h)
@[simp, go_sem] theorem semAt_store (l : Nat) (ρ : Operand → Value) t1 x y d ty po af gd : Oper.semAt (some l) ρ { dst := d, op := .store t1 x y, type := ty, pos := po, after := af, guard := gd } = execOp ρ { dst := d, op := .store t1 x y, type := ty, pos := po, after := af, guard := gd } := Oper.semAt_some l _ _ (fun c h => by cases h)
@[simp, go_sem] theorem semAt_binOp (l : Nat) (ρ : Operand → Value) b t1 x y t2 d ty po af gd : Oper.semAt (some l) ρ { dst := d, op := .binOp b t1 x y t2, type := ty, pos := po, after := af, guard := gd } = execOp ρ { dst := d, op := .binOp b t1 x y t2, type := ty, pos := po, after := af, guard := gd } := Oper.semAt_some l _ _ (fun c h => by cases h)
@[simp, go_sem] theorem semAt_unOp (l : Nat) (ρ : Operand → Value) b t1 x d ty po af gd : Oper.semAt (some l) ρ { dst := d, op := .unOp b t1 x, type := ty, pos := po, after := af, guard := gd } = execOp ρ { dst := d, op := .unOp b t1 x, type := ty, pos := po, after := af, guard := gd } := Oper.semAt_some l _ _ (fun c h => by cases h)
@[simp, go_sem] theorem semAt_pick (l : Nat) (ρ : Operand → Value) x y z d ty po af gd : Oper.semAt (some l) ρ { dst := d, op := .pick x y z, type := ty, pos := po, after := af, guard := gd } = execOp ρ { dst := d, op := .pick x y z, type := ty, pos := po, after := af, guard := gd } := Oper.semAt_some l _ _ (fun c h => by cases h)
@[simp, go_sem] theorem semAt_conv (l : Nat) (ρ : Operand → Value) t1 t2 x d ty po af gd : Oper.semAt (some l) ρ { dst := d, op := .convert t1 t2 x, type := ty, pos := po, after := af, guard := gd } = execOp ρ { dst := d, op := .convert t1 t2 x, type := ty, pos := po, after := af, guard := gd } := Oper.semAt_some l _ _ (fun c h => by cases h)
@[simp, go_sem] theorem semAt_ext (l : Nat) (ρ : Operand → Value) x i d ty po af gd : Oper.semAt (some l) ρ { dst := d, op := .extract x i, type := ty, pos := po, after := af, guard := gd } = execOp ρ { dst := d, op := .extract x i, type := ty, pos := po, after := af, guard := gd } := Oper.semAt_some l _ _ (fun c h => by cases h)
@[simp, go_sem] theorem semAt_look (l : Nat) (ρ : Operand → Value) t1 x y b d ty po af gd : Oper.semAt (some l) ρ { dst := d, op := .lookup t1 x y b, type := ty, pos := po, after := af, guard := gd } = execOp ρ { dst := d, op := .lookup t1 x y b, type := ty, pos := po, after := af, guard := gd } := Oper.semAt_some l _ _ (fun c h => by cases h)
/-- The blocks that Same's rounds have. -/
def smO (g4 g5 g6 g9 g10 Mb : Nat) : Nat → Prop := fun k => k = g4 ∨ k = g5 ∨ k = g6 ∨ k = g9 ∨ k = g10 ∨ k = Mb
structure SmIv (g4 g5 g6 g9 g10 Mb : Nat) (r : Int × Int) (m : Mp) (c : Nat) (w : World) (last k : Int) : Prop where
  b4 : BoxA w g4 r
  b5 : w.cell? ⟨g5, 0, none⟩ = some (.map (some Mb))
  b6 : w.cell? ⟨g6, 0, none⟩ = some (.bool false)
  z6 : w.frozen? ⟨g6, 0, none⟩ = false
  b9 : w.cell? ⟨g9, 0, none⟩ = some (.int .i64 last)
  z9 : w.frozen? ⟨g9, 0, none⟩ = false
  b10 : w.cell? ⟨g10, 0, none⟩ = some (.int .i64 k)
  z10 : w.frozen? ⟨g10, 0, none⟩ = false
  mp : GMap w Mb m c
  ne : g9 ≠ g10 ∧ g4 ≠ g9 ∧ g4 ≠ g10 ∧ g5 ≠ g9 ∧ g5 ≠ g10 ∧ g6 ≠ g9 ∧ g6 ≠ g10 ∧ Mb ≠ g9 ∧ Mb ≠ g10
section
variable {g4 g5 g6 g9 g10 Mb c : Nat} {r : Int × Int} {m : Mp} {w w' : World} {last k : Int} {S : Nat → Prop}
theorem SmIv.off (h : SmIv g4 g5 g6 g9 g10 Mb r m c w last k) (ho : Off S w w') (hs : ∀ k, S k → ¬ smO g4 g5 g6 g9 g10 Mb k) : SmIv g4 g5 g6 g9 g10 Mb r m c w' last k := by
  have n4 : ¬ S g4 := fun e => hs _ e (.inl rfl)
  have n5 : ¬ S g5 := fun e => hs _ e (.inr (.inl rfl))
  have n6 : ¬ S g6 := fun e => hs _ e (.inr (.inr (.inl rfl)))
  have n9 : ¬ S g9 := fun e => hs _ e (.inr (.inr (.inr (.inl rfl))))
  have n10 : ¬ S g10 := fun e => hs _ e (.inr (.inr (.inr (.inr (.inl rfl)))))
  have nM : ¬ S Mb := fun e => hs _ e (.inr (.inr (.inr (.inr (.inr rfl)))))
  exact ⟨h.b4.off ho n4, (ho.cell (p := ⟨g5, 0, none⟩) (lt_of_cell h.b5) n5).trans h.b5, (ho.cell (p := ⟨g6, 0, none⟩) (lt_of_cell h.b6) n6).trans h.b6, (ho.frozen (p := ⟨g6, 0, none⟩) (lt_of_cell h.b6) n6).trans h.z6,
    (ho.cell (p := ⟨g9, 0, none⟩) (lt_of_cell h.b9) n9).trans h.b9, (ho.frozen (p := ⟨g9, 0, none⟩) (lt_of_cell h.b9) n9).trans h.z9, (ho.cell (p := ⟨g10, 0, none⟩) (lt_of_cell h.b10) n10).trans h.b10, (ho.frozen (p := ⟨g10, 0, none⟩) (lt_of_cell h.b10) n10).trans h.z10, h.mp.off ho nM, h.ne⟩
theorem SmIv.lt (h : SmIv g4 g5 g6 g9 g10 Mb r m c w last k) {i : Nat} (hi : smO g4 g5 g6 g9 g10 Mb i) : i < w.heap.size := by
  rcases hi with e | e | e | e | e | e
  · rw [e]; exact h.b4.lt
  · rw [e]; exact lt_of_cell h.b5
  · rw [e]; exact lt_of_cell h.b6
  · rw [e]; exact lt_of_cell h.b9
  · rw [e]; exact lt_of_cell h.b10
  · rw [e]; exact MapIs.lt h.mp
/-- A round goes on. -/
theorem SmIv.next (h : SmIv g4 g5 g6 g9 g10 Mb r m c w last k) (last' k' : Int) : SmIv g4 g5 g6 g9 g10 Mb r m c ((w.setCell ⟨g9, 0, none⟩ (.int .i64 last')).setCell ⟨g10, 0, none⟩ (.int .i64 k')) last' k' ∧
    Off (smO g4 g5 g6 g9 g10 Mb) w ((w.setCell ⟨g9, 0, none⟩ (.int .i64 last')).setCell ⟨g10, 0, none⟩ (.int .i64 k')) := by
  obtain ⟨n1, n2, n3, n4, n5, n6, n7, n8, n9⟩ := h.ne
  have o1 : Off (fun i => i = g9 ∨ i = g10) w (w.setCell ⟨g9, 0, none⟩ (.int .i64 last')) := (Off.refl _ w).setCell (p := ⟨g9, 0, none⟩) (.inl rfl) _
  have o2 : Off (fun i => i = g9 ∨ i = g10) w ((w.setCell ⟨g9, 0, none⟩ (.int .i64 last')).setCell ⟨g10, 0, none⟩ (.int .i64 k')) := o1.setCell (p := ⟨g10, 0, none⟩) (.inr rfl) _
  have ne : ∀ g, g ≠ g9 → g ≠ g10 → ¬ (g = g9 ∨ g = g10) := fun g h1 h2 e => e.elim h1 h2
  refine ⟨⟨h.b4.off o2 (ne _ n2 n3), (o2.cell (p := ⟨g5, 0, none⟩) (lt_of_cell h.b5) (ne _ n4 n5)).trans h.b5, (o2.cell (p := ⟨g6, 0, none⟩) (lt_of_cell h.b6) (ne _ n6 n7)).trans h.b6, (o2.frozen (p := ⟨g6, 0, none⟩) (lt_of_cell h.b6) (ne _ n6 n7)).trans h.z6, ?_, ?_, ?_, ?_, h.mp.off o2 (ne _ n8 n9), h.ne⟩, o2.mono fun i e => e.elim (fun e => .inr (.inr (.inr (.inl e)))) (fun e => .inr (.inr (.inr (.inr (.inl e)))))⟩
  · rw [World.cell?_setCell_other _ _ _ _ (fun e => by injection e with e1 _; exact n1 e1.symm)]
    exact World.cell?_setCell_same _ _ _ h.b9
  · rw [World.frozen?_setCell, World.frozen?_setCell]; exact h.z9
  · exact World.cell?_setCell_same _ _ _ ((World.cell?_setCell_other _ _ _ _ (fun e => by injection e with e1 _; exact n1 e1)).trans h.b10)
  · rw [World.frozen?_setCell, World.frozen?_setCell]; exact h.z10
end
theorem loadVar_bool {w : World} {g : Nat} {b : Bool} (h : w.cell? ⟨g, 0, none⟩ = some (.bool b)) : (loadVar 4 ⟨g, 0, none⟩).run Try.prog w = .ok (.bool b) w := by
  simp [go_sem, h]
theorem results_bool1 {fn : Func} {p : Tmp} (h : fn.results = #[.cell p 4]) (tmps : Array Value) (w : World) (g : Nat) (b : Bool) (hp : tmps.getD p undef = .pointer (some ⟨g, 0, none⟩)) (h0 : w.cell? ⟨g, 0, none⟩ = some (.bool b)) :
    (results fn tmps).run Try.prog w = .ok (.bool b) w := by
  have hl := loadVar_bool h0
  have hp2 : tmps[p]?.getD undef = .pointer (some ⟨g, 0, none⟩) := by rw [← hp]; simp [Array.getD_eq_getD_getElem?]
  simp [results, h, hp2, asAddr, hl, Result.andThen]
/-- The deferred block is taken. -/
theorem leaves_one {P : Program} {fn : Func} {tmps : Array Value} {R : Ending → World → Prop} {F : Fence} {m D : Nat} {v : Value} {w : World} (hK : w.heap[D]? = some (.deferred (some []))) (hr : (results fn tmps).run P (w.putObj D (.deferred none)) = .ok v (w.putObj D (.deferred none))) (hR : R (.returned v) (w.putObj D (.deferred none))) :
    LeavesInM F m P fn tmps R [{ target := .collected D, args := #[] }] .returning w :=
  ⟨by simp, .inl ⟨D, _, rfl, run_takeDeferred hK, ⟨v, hr, hR⟩⟩⟩
structure SmOk (W w : World) (S T : Nat) (O : Nat → Prop) (st : ShS × Int) (Mb : Nat) (m : Mp) (c : Nat) (w' : World) (s' : ShS) : Prop where
  l : ShL W w' S T O (s', st.2)
  off : Off (fun k => O k ∨ k = Mb) w w'
  mp : GMap w' Mb m c
  aft : Aft shP 0 st (s', st.2)
  rdy : ∀ n, shK.Rdy st.1 n → shK.Rdy s' n
def SmPost (W w : World) (S T : Nat) (O : Nat → Prop) (st : ShS × Int) (Mb : Nat) (m : Mp) (c : Nat) (e : Ending) (w' : World) : Prop := e = .returned (.bool true) ∧ ∃ s', SmOk W w S T O st Mb m c w' s'
set_option maxRecDepth 100000 in
set_option maxHeartbeats 8000000 in
theorem same_any {W w : World} {S T : Nat} {O : Nat → Prop} {st : ShS × Int} (h : ShL W w S T O st) (hr : shK.Rdy st.1 0) {r : Int × Int} {m : Mp} (hm : TellsR (shRd st.1.L) r m) {ps : Ps} (hp : Lst m ps) (hl : ps.length ≤ 149796) {Mb : Nat} (hg : GMap w Mb m ps.length) (hMO : Out O T Mb) (hMW : W.heap.size ≤ Mb) :
    Calls Try.prog 17 #[.pointer (some ⟨T, 0, none⟩), .agg #[.int .i64 r.1, .int .i64 r.2], .map (some Mb)] w (SmPost W w S T O st Mb m ps.length) := by
  obtain ⟨ra, rb⟩ := r
  have H := Lib.hid h
  have HR := Lib.hid hr
  have HM := Lib.hid hm
  have HP := Lib.hid hp
  have HG := Lib.hid hg
  have HMO := Lib.hid hMO
  have hMlt := MapIs.lt hg
  have hTlt := h.tr.lt
  have HOL := Lib.hid (fun k hk => (shM S).lt h.tr.at_ (k := k) hk)
  clear h hr hm hp hg hMO
  refine (callsIn_wide (n := 9)).1 ?_
  refine callsIn_of_wp_marks Try.func17 rfl trivial ?_ rfl
  simp only [Try.ntmps17, List.size_toArray, List.length_cons, List.length_nil, Nat.reduceAdd, Nat.reduceSub, Array.replicate_succ, Array.replicate_zero, List.push_toArray, List.append_toArray, List.nil_append, List.cons_append]
  refine wpIn_wide.2 ?_
  go_upto_region 1 with (fail)
  have tb : ∀ W, W = (((w.alloc (.cells #[.int .i64 ra, .int .i64 rb] 30)).alloc (.cells #[.map (some Mb)] 31)).alloc (.cells #[.bool false] 4)) →
      Below w.heap.size w W ∧ BoxA W w.heap.size (ra, rb) ∧ W.cell? ⟨w.heap.size + 1, 0, none⟩ = some (.map (some Mb)) ∧ W.cell? ⟨w.heap.size + 2, 0, none⟩ = some (.bool false) ∧ W.frozen? ⟨w.heap.size + 2, 0, none⟩ = false ∧ W.heap.size = w.heap.size + 3 := by
    rintro W rfl
    have s1 : (w.alloc (.cells #[.int .i64 ra, .int .i64 rb] 30)).heap.size = w.heap.size + 1 := by simp
    have s2 : ((w.alloc (.cells #[.int .i64 ra, .int .i64 rb] 30)).alloc (.cells #[.map (some Mb)] 31)).heap.size = w.heap.size + 2 := by simp
    have b1 : Below w.heap.size w (w.alloc (.cells #[.int .i64 ra, .int .i64 rb] 30)) := (Below.refl _ _).alloc (Nat.le_refl _) _
    have x1 := BoxA.new w 30 (ra, rb)
    simp only at x1
    generalize w.alloc (.cells #[.int .i64 ra, .int .i64 rb] 30) = W1 at *
    have b2 : Below W1.heap.size W1 (W1.alloc (.cells #[.map (some Mb)] 31)) := (Below.refl _ _).alloc (Nat.le_refl _) _
    have c2 := (alloc_at W1 (.map (some Mb)) 31).1
    rw [s1] at c2
    generalize W1.alloc (.cells #[.map (some Mb)] 31) = W2 at *
    have b3 : Below W2.heap.size W2 (W2.alloc (.cells #[.bool false] 4)) := (Below.refl _ _).alloc (Nat.le_refl _) _
    have c3 := alloc_at W2 (.bool false) 4
    rw [s2] at c3
    have s3 : (W2.alloc (.cells #[.bool false] 4)).heap.size = w.heap.size + 3 := by simp [s2]
    generalize W2.alloc (.cells #[.bool false] 4) = W3 at *
    exact ⟨(b1.trans (b2.mono (by omega))).trans (b3.mono (by omega)), (x1.off (S := fun _ => False) (Off.of_below b2) id).off (S := fun _ => False) (Off.of_below b3) id, (b3.cell (p := ⟨w.heap.size + 1, 0, none⟩) (by show w.heap.size + 1 < W2.heap.size; omega)).trans c2, c3.1, c3.2, s3⟩
  refine wp_forget (fun W => Below w.heap.size w W ∧ BoxA W w.heap.size (ra, rb) ∧ W.cell? ⟨w.heap.size + 1, 0, none⟩ = some (.map (some Mb)) ∧ W.cell? ⟨w.heap.size + 2, 0, none⟩ = some (.bool false) ∧ W.frozen? ⟨w.heap.size + 2, 0, none⟩ = false ∧ W.heap.size = w.heap.size + 3) (tb _ rfl) ?_
  clear tb
  rintro W0 ⟨hb0, hx4, c5, c6, z6, hs0⟩
  have b0 := hx4.1
  have b1 := hx4.2.1
  have lx := hx4.lt
  simp only at b0 b1
  have HC := Lib.hid (shl_check (H.out.up hb0) HR.out (r := (ra, rb)) HM.out HP.out hl)
  simp only at HC
  have HB0 := Lib.hid hb0
  have HX4 := Lib.hid hx4
  have HG0 := Lib.hid (HG.out.off (S := fun _ => False) (Off.of_below hb0) id)
  clear hb0 hx4 HG
  go_upto_region 2 with (go_at_call 25; refine HC.out.mono ?_; rintro e W1 ⟨s1, he, hk1⟩; subst he)
  clear b0 b1 lx
  have HK1 := Lib.hid hk1
  have nO : ∀ g, w.heap.size ≤ g → ¬ O g := fun g hg e => by have := HOL.out g e; omega
  have HX41 := Lib.hid (HX4.out.off hk1.off (nO _ (Nat.le_refl _)))
  have e5 := (hk1.off.cell (p := ⟨w.heap.size + 1, 0, none⟩) (lt_of_cell c5) (nO _ (by show w.heap.size ≤ w.heap.size + 1; omega))).trans c5
  have e6 := (hk1.off.cell (p := ⟨w.heap.size + 2, 0, none⟩) (lt_of_cell c6) (nO _ (by show w.heap.size ≤ w.heap.size + 2; omega))).trans c6
  have y6 := (hk1.off.frozen (p := ⟨w.heap.size + 2, 0, none⟩) (lt_of_cell c6) (nO _ (by show w.heap.size ≤ w.heap.size + 2; omega))).trans z6
  have HG1 := Lib.hid (HG0.out.off hk1.off HMO.out.1)
  have hlen := fun ty => HG1.out.len ty
  have l5 := lt_of_cell e5
  have l6 := lt_of_cell e6
  have hs1 := hk1.off.size
  clear hk1 HG0 HX4 c5 c6 z6 HC
  go_upto_region 6 with (fail)
  obtain ⟨W2, hW2⟩ : ∃ W2, W2 = ((W1.alloc (.cells #[.int .i64 (-1)] 3)).alloc (.cells #[.int .i64 0] 3)) := ⟨_, rfl⟩
  have hal : Below W1.heap.size W1 W2 ∧ W2.cell? ⟨W1.heap.size, 0, none⟩ = some (.int .i64 (-1)) ∧ W2.frozen? ⟨W1.heap.size, 0, none⟩ = false ∧ W2.cell? ⟨W1.heap.size + 1, 0, none⟩ = some (.int .i64 0) ∧ W2.frozen? ⟨W1.heap.size + 1, 0, none⟩ = false ∧ W2.heap.size = W1.heap.size + 2 := by
    rw [hW2]
    have q1 : (W1.alloc (.cells #[.int .i64 (-1)] 3)).heap.size = W1.heap.size + 1 := by simp
    have b1 : Below W1.heap.size W1 (W1.alloc (.cells #[.int .i64 (-1)] 3)) := (Below.refl _ _).alloc (Nat.le_refl _) _
    have c1 := alloc_at W1 (.int .i64 (-1)) 3
    generalize W1.alloc (.cells #[.int .i64 (-1)] 3) = X1 at *
    have b2 : Below X1.heap.size X1 (X1.alloc (.cells #[.int .i64 0] 3)) := (Below.refl _ _).alloc (Nat.le_refl _) _
    have c2 := alloc_at X1 (.int .i64 0) 3
    rw [q1] at c2
    exact ⟨b1.trans (b2.mono (by omega)), (b2.cell (p := ⟨W1.heap.size, 0, none⟩) (by show W1.heap.size < X1.heap.size; omega)).trans c1.1, (b2.frozen (p := ⟨W1.heap.size, 0, none⟩) (by show W1.heap.size < X1.heap.size; omega)).trans c1.2, c2.1, c2.2, by simp [q1]⟩
  rw [← hW2]
  clear hW2
  obtain ⟨hb2, k9, z9, k10, z10, hs2⟩ := hal
  obtain ⟨g4, hg4⟩ : ∃ g, w.heap.size = g := ⟨_, rfl⟩
  obtain ⟨g5, hg5⟩ : ∃ g, w.heap.size + 1 = g := ⟨_, rfl⟩
  obtain ⟨g6, hg6⟩ : ∃ g, w.heap.size + 1 + 1 = g := ⟨_, rfl⟩
  obtain ⟨g9, hg9⟩ : ∃ g, W1.heap.size = g := ⟨_, rfl⟩
  obtain ⟨g10, hg10⟩ : ∃ g, W1.heap.size + 1 = g := ⟨_, rfl⟩
  have hiv : SmIv g4 g5 g6 g9 g10 Mb (ra, rb) m ps.length W2 (-1) 0 := by
    rw [← hg4, ← hg5, ← hg6, ← hg9, ← hg10]
    exact ⟨HX41.out.off (S := fun _ => False) (Off.of_below hb2) id, (hb2.cell (p := ⟨w.heap.size + 1, 0, none⟩) l5).trans e5, (hb2.cell (p := ⟨w.heap.size + 2, 0, none⟩) l6).trans e6, (hb2.frozen (p := ⟨w.heap.size + 2, 0, none⟩) l6).trans y6, k9, z9, k10, z10, HG1.out.off (S := fun _ => False) (Off.of_below hb2) id,
      by omega, by omega, by omega, by omega, by omega, by omega, by omega, by omega, by omega⟩
  have HIV := Lib.hid hiv
  have HL2 := Lib.hid (HK1.out.l.up hb2)
  have HOF : Hid (Off O w W2) := Lib.hid ((((Off.of_below HB0.out).mono (fun _ => False.elim)).trans HK1.out.off).step hb2)
  have b0 := hiv.b4.1
  have b1 := hiv.b4.2.1
  have lb := hiv.b4.lt
  have HAF := Lib.hid HK1.out.aft
  have HRD := Lib.hid HK1.out.rdy
  simp only at b0 b1
  have HN : Hid (g4 = w.heap.size ∧ g5 = w.heap.size + 1 ∧ g6 = w.heap.size + 2 ∧ w.heap.size + 3 ≤ g9 ∧ g10 = g9 + 1 ∧ W2.heap.size = g9 + 2) := Lib.hid (by omega)
  clear hiv hb2 k9 z9 k10 z10 HX41 HG1 HK1 HB0 e5 e6 y6 hlen l5 l6 hs1 hs0
  rw [hg6, hg5, hg4, hg10, hg9]
  have HAL := Lib.hid (all_any W2 T (ra, rb))
  unfold addrV at HAL
  clear hg4 hg5 hg6 hg9 hg10 hs2
  go_wp2_with (go_at_call 26; refine HAL.out.mono ?_; rintro e W3 ⟨he, hb3, hs3, q2, q3⟩; subst he; have HS3 := Lib.hid hs3; clear hs3)
  have hivs : SmIv g4 g5 g6 g9 g10 Mb (ra, rb) m ps.length W3 (-1) 0 := HIV.out.off (S := fun _ => False) (Off.of_below hb3) (fun _ => False.elim)
  have hL3 := HL2.out.up hb3
  have HOF3 := Lib.hid (HOF.out.step hb3)
  obtain ⟨ps', hps', hnil, hgo⟩ := tells_list shP (s := s1) (r := (ra, rb)) (m := m) (by
    have := HAF.out.sub
    exact TellsK.mono HM.out this) HL2.out.inn
  obtain rfl := HP.out.uniq hps'
  obtain ⟨last', hfold⟩ := HP.out.same hl
  obtain ⟨s9, left9, hw9, hlk9⟩ := hgo (smF m) (some (-1, 0)) hl
  rw [hfold] at hw9
  have HW9 := Lib.hid hw9
  have HLK9 := Lib.hid hlk9
  have HNIL := Lib.hid hnil
  clear hfold hnil hgo nO hw9 hlk9
  refine (wpIn_wide (n := 9)).1 ?_
  refine range_pairs (M := shM S) (T := T) (O := O) (Ov := smO g4 g5 g6 g9 g10 Mb) (s := s1) (p := st.2) (r := (ra, rb)) shK_good rfl rfl (smF m) smA (fun x k v hx => smF_al m x k v hx)
    (fun w O1 x => (∀ k, O1 k ↔ smO g4 g5 g6 g9 g10 Mb k) ∧ ∃ last k, x = some (last, k) ∧ SmIv g4 g5 g6 g9 g10 Mb (ra, rb) m ps.length w last k) (fun _ w O1 _ => ∀ k, O1 k → k < w.heap.size)
    (fun {S O w w' x} h ho hs => ⟨h.1, by
      obtain ⟨last, k, e, hi⟩ := h.2
      exact ⟨last, k, e, hi.off ho (fun i hi2 h3 => hs i hi2 ((h.1 i).2 h3))⟩⟩) (fun {O w x k} h hk => by
      obtain ⟨last, k', e, hi⟩ := h.2
      exact hi.lt ((h.1 k).1 hk))
    (fun {c S O w w' x} h ho hs k hk => Nat.lt_of_lt_of_le (h k hk) ho.size) (fun {c O w x k} h hk => h k hk)
    ?a1 (some (-1, 0)) rfl hL3.tr ⟨fun k => Iff.rfl, -1, 0, rfl, hivs⟩ (HRD.out 0 HR.out) ?d1 ?d2 q2 q3 ?assign ?body ?fin
  case d1 =>
    intro i hi e
    have := HOL.out i hi
    have hn := HN.out
    rcases e with e | e | e | e | e | e
    · omega
    · omega
    · omega
    · omega
    · omega
    · exact HMO.out.1 (by rw [← e]; exact hi)
  case d2 =>
    intro e
    have hn := HN.out
    rcases e with e | e | e | e | e | e
    · omega
    · omega
    · omega
    · omega
    · omega
    · exact HMO.out.2 e.symm
  case assign =>
    intro l key v W K hK
    gi_wp2
    exact hK
  case body =>
    intro l x key v Lb W O1 hiv hx hkey hsl hLb hvO
    obtain ⟨hO1, last, k, rfl, hi⟩ := hiv
    obtain ⟨A, n, c, rfl, hnc, hs⟩ := hsl
    have hcv := hs.str c
    have HI := Lib.hid hi
    have c5 := hi.b5
    have c6 := hi.b6
    have c9 := hi.b9
    have c10 := hi.b10
    have y6 := hi.z6
    have y9 := hi.z9
    have y10 := hi.z10
    have l9 := lt_of_cell c9
    have l10 := lt_of_cell c10
    have l6 := lt_of_cell c6
    have hlk := hi.mp.look (key := (key : Int)) (by omega)
    rw [mI_nat] at hlk
    have HO1 := Lib.hid hO1
    have HOFF6 : Hid (bdPost smA (fun w O1 x => (∀ k, O1 k ↔ smO g4 g5 g6 g9 g10 Mb k) ∧ ∃ last k, x = some (last, k) ∧ SmIv g4 g5 g6 g9 g10 Mb (ra, rb) m ps.length w last k) (fun _ w O1 _ => ∀ k, O1 k → k < w.heap.size) O1 W none .ret ⟨#[], []⟩ (W.setCell ⟨g6, 0, none⟩ (.bool false))) := Lib.hid
      ⟨rfl, O1, fun k hk => by have := hi.lt ((hO1 k).1 hk); simpa using this, (Off.refl O1 W).setCell (p := ⟨g6, 0, none⟩) ((hO1 g6).2 (.inr (.inr (.inl rfl)))) _, fun k hk => .inl hk⟩
    obtain ⟨N1, N2⟩ : g9 ≠ g10 ∧ g10 ≠ g9 := ⟨hi.ne.1, hi.ne.1.symm⟩
    clear hi hs hO1
    by_cases h1 : (key : Int) ≤ last
    · have e : smF m (some (last, k)) key Lb = (none, false) := by simp only [smF]; rw [if_pos (.inl h1)]
      rw [e]
      clear e
      gi_wp2
      exact HOFF6.out
    · have hd1 : decide ((key : Int) ≤ last) = false := decide_eq_false h1
      cases hmk : m key with
      | none =>
        have e : smF m (some (last, k)) key Lb = (none, false) := by simp only [smF]; rw [if_pos (.inr (by rw [hmk]; simp))]
        rw [e]
        rw [hmk] at hlk
        simp only [Option.getD_none, Option.isSome_none] at hlk
        clear e hmk h1
        gi_wp2
        exact HOFF6.out
      | some Lw =>
        rw [hmk] at hlk
        simp only [Option.getD_some, Option.isSome_some] at hlk
        have hse := strB_eq Lw Lb
        by_cases h2 : Lw = Lb
        · have e : smF m (some (last, k)) key Lb = (some ((key : Int), inc64 k), true) := by simp only [smF]; rw [if_neg]; rintro (g | g); exact h1 g; exact g (by rw [hmk, h2])
          rw [e]
          rw [decide_eq_true h2] at hse
          clear e hmk h1 h2
          gi_wp2
          obtain ⟨n1, n2⟩ := HI.out.next (key : Int) (inc64 k)
          exact ⟨rfl, O1, ⟨HO1.out, _, _, rfl, n1⟩, n2.mono (fun i hi => (HO1.out i).2 hi), fun k hk => .inl hk⟩
        · have e : smF m (some (last, k)) key Lb = (none, false) := by simp only [smF]; rw [if_pos (.inr (by rw [hmk]; simp [h2]))]
          rw [e]
          rw [decide_eq_false h2] at hse
          clear e hmk h1 h2
          gi_wp2
          exact HOFF6.out
  case fin =>
    intro D W4 O1 y hy hD hdf htr hof hO1
    rw [HW9.out] at hy
    subst hy
    refine ⟨fun _ hiv => ?_, fun hal => by cases hal⟩
    obtain ⟨hO1b, last, k, hxx, hi⟩ := hiv
    simp only [Option.some.injEq, Prod.mk.injEq] at hxx
    obtain ⟨rfl, rfl⟩ := hxx
    have c4 := hi.b4.1
    have c4b := hi.b4.2.1
    have l4 := hi.b4.lt
    have c5 := hi.b5
    have c6 := hi.b6
    have c10 := hi.b10
    have y6 := hi.z6
    have l5 := lt_of_cell c5
    have l6 := lt_of_cell c6
    have l10 := lt_of_cell c10
    have hlen := fun ty => (hi.mp.off (S := fun _ => False) ((Off.refl _ _).drew) id).len ty
    simp only at c4 c4b
    have HTR := Lib.hid htr
    have HI4 := Lib.hid hi
    have HDF := Lib.hid hdf
    have hDn : g6 < D := by have := HN.out; have := HS3.out; omega
    have HD2 := Lib.hid (show w.heap.size ≤ D by have := HN.out; have := HS3.out; omega)
    have HOFW : Hid (Off (fun k => O k ∨ k = Mb) w W4) := Lib.hid ((HOF3.out.mono fun k e => Or.inl e).late hof fun i hl hi => by
      have hn := HN.out
      rcases hi with e | e | e | e | e | e | e
      · exact .inl e
      · omega
      · omega
      · omega
      · omega
      · omega
      · exact .inr e)
    clear htr hi hof hO1 hO1b hdf q2 q3 hivs hL3 b0 b1 lb hD
    have hnil := HNIL.out
    have hMW2 := hMW
    have hrd9 : ∀ n, shK.Rdy st.1 n → shK.Rdy s9 n := fun n hn => by
      have h1 := walkF_rdy (K := shK) shK_good (pairsC (smF m)) 7 (s1, 1048576, some (-1, 0)) (ra, rb) 0 0 n (HRD.out n hn)
      rw [HW9.out] at h1
      exact h1
    have HEND : Hid (∀ (Tm : Array Value) (V : World), Tm.getD 6 undef = .pointer (some ⟨g6, 0, none⟩) → Off (· = g6) W4 V → V.cell? ⟨g6, 0, none⟩ = some (.bool true) → bodyPostM Fence.wide 9 Try.prog Try.f17 (SmPost W w S T O st Mb m ps.length) .ret { tmps := Tm, defers := [{ target := .collected D, args := #[] }] } V) := Lib.hid fun Tm V hTm hoV hcV => by
      have hg6 : w.heap.size ≤ g6 := by have := HN.out; omega
      have hD' := HD2.out
      have hoD : Off (fun k => k = g6 ∨ k = D) W4 (V.putObj D (.deferred none)) := (hoV.mono fun k e => Or.inl e).trans ((off_putObj V (l := D) (.deferred none)).mono fun k e => Or.inr e)
      have hK : V.heap[D]? = some (.deferred (some [])) := heap_off HDF.out hoV (fun e => by omega)
      have hcd : (V.putObj D (.deferred none)).cell? ⟨g6, 0, none⟩ = some (.bool true) := ((off_putObj V (l := D) (.deferred none)).cell (p := ⟨g6, 0, none⟩) (lt_of_cell hcV) (by show ¬ g6 = D; omega)).trans hcV
      have hofV : Off (fun k => O k ∨ k = Mb) w (V.putObj D (.deferred none)) := HOFW.out.late hoD fun i hl e => by omega
      refine leaves_one hK (results_bool1 rfl Tm _ g6 true hTm hcd) ⟨rfl, s9, ⟨⟨HTR.out.off hoD (fun k e hk => by have := HOL.out k hk; omega) (by omega), H.out.hO, H.out.hT, HLK9.out.inn, H.out.bel.trans (hofV.below (fun k e => e.elim (H.out.hO k) (fun e => by rw [e]; exact hMW2)) H.out.bel.size)⟩, hofV, HI4.out.mp.off hoD (by omega), HAF.out.trans (HLK9.out.aft st.2), hrd9⟩⟩
    clear hrd9 hMW2
    by_cases hz : (ra, rb) = ((0, 0) : Int × Int)
    · obtain rfl := hnil.2 hz
      have hq0 := fun w => eq_root ra rb w
      simp only [hz, decide_true] at hq0
      have HEND2 := Lib.hid HEND.out
      cases hz
      clear hnil HEND
      simp only [List.length_nil] at c10 hlen
      go_upto_region 14 with (fail)
      go_region
      all_goals go_wp2
      all_goals
        refine HEND2.out _ _ rfl (((Off.refl (· = g6) W4).setCell (p := ⟨g6, 0, none⟩) rfl _).drew) ?_
        exact World.cell?_setCell_same _ _ _ c6
    · have hN0 : (0 : Int) < (ps.length : Int) := by
        rcases Nat.eq_zero_or_pos ps.length with h0 | h0
        · exact absurd (hnil.1 (List.length_eq_zero_iff.1 h0)) hz
        · omega
      have hq0 := fun w => eq_root ra rb w
      simp only [hz, decide_false] at hq0
      have HN0 := Lib.hid hN0
      clear hnil hz
      go_upto_region 14 with (fail)
      go_region
      all_goals go_wp2
      all_goals
        refine HEND.out _ _ rfl (((Off.refl (· = g6) W4).setCell (p := ⟨g6, 0, none⟩) rfl _).drew) ?_
        have hdt : decide (0 < ps.length) = true := decide_eq_true (by have := HN0.out; omega)
        rw [hdt]
        exact World.cell?_setCell_same _ _ _ c6
end Go.Proofs.Ytgkdggidgaifhaa
