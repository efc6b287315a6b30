/- radix: Pairs, Check, All. -/
import Derived.Test.YtbmlggieifaniaaOl
namespace Go.Proofs.Ytbmlggieifaniaa
open Go.RowKit
set_option linter.unusedVariables false
set_option linter.unusedSimpArgs false

theorem ent_fn {P : Program} {f : FuncId} {fn : Func} {c : Code} (hf : P.funcs[f]? = some fn) (hname : (fn.name == "runtime.NumGoroutine") = false) (hb : fn.body = some c) (args : Array Value) (w : World) : (callFunc f args).run P w = .ok (.enter f args) w := by
  have h1 : fn.name ≠ "runtime.NumGoroutine" := by simpa using hname
  simp [callFunc, hf, h1, hb, mark]
section
variable {α : Type} {f : α → Nat → Bytes → α × Bool}
/-- What Pairs hands to the walk. -/
def visP (C : Pcb f) (B : Nat) : Vis (pairsC f) where
  gf := 45
  lb := #[.pointer (some ⟨B, 0, none⟩)]
  ent := ent_fn Try.func45 (by kernel_rfl) rfl
  Iv := fun w O a => ∃ O1 : Nat → Prop, C.Iv w O1 a ∧ w.cell? ⟨B, 0, none⟩ = some (.func (.func C.gf) #[] C.lb) ∧ ¬ O1 B ∧ ∀ k, O k ↔ O1 k ∨ k = B
  Rdy := fun a n => C.Rdy a (16 * n)
  mono := fun a n m h hm => C.mono _ _ _ h (by omega)
  step := fun a r x n h h2 => pairsC_rdy C a r x n h h2
  off := fun {S O w w' a} h ho hs => by
    obtain ⟨O1, h1, h2, h3, h4⟩ := h
    exact ⟨O1, C.off h1 ho (fun k e e2 => hs k e ((h4 k).2 (.inl e2))), (ho.cell (p := ⟨B, 0, none⟩) (lt_of_cell h2) (fun e => hs B e ((h4 B).2 (.inr rfl)))).trans h2, h3, h4⟩
  lt := fun {O w a k} h hk => by
    obtain ⟨O1, h1, h2, h3, h4⟩ := h
    rcases (h4 k).1 hk with e | e
    · exact C.lt h1 e
    · rw [e]; exact lt_of_cell h2
  call := fun {w O a X x vv vl} r h hr hok hbr hn hX hv => by
    obtain ⟨O1, h1, h2, h3, h4⟩ := h
    refine (pairs1_any (C := C) (B := B) (Ov := O1) r ⟨h1, h2, h3, Off.refl _ _, fun k e => .inl e, hn, fun e => hX ((h4 X).2 (.inl e)), hv.mono fun b hb e => hb ((h4 b).2 (.inl e))⟩ (C.mono _ _ _ hr (by omega)) hok).mono ?_
    rintro e w' ⟨O2, he, hp⟩
    exact ⟨fun k => O2 k ∨ k = B, he, ⟨O2, hp.iv, hp.box, hp.nB, fun k => Iff.rfl⟩, hp.off.mono fun k e => (h4 k).2 (.inl e), fun k e => e.elim (fun e => (hp.hO k e).imp (fun e => (h4 k).2 (.inl e)) id) (fun e => .inl ((h4 k).2 (.inr e)))⟩
/-- Pairs has answered. -/
def PsPost {σ : Type} {K : SnkF σ} (M : Snk K) (C : Pcb f) (w : World) (T : Nat) (O Ov : Nat → Prop) (p : Int) (y : WkSt σ α × Bool × Int) (e : Ending) (w' : World) : Prop :=
  ∃ Ov' : Nat → Prop, e = .returned (.int .i64 y.2.2) ∧ TrAt M w' T O y.1.1 p ∧ C.Iv w' Ov' y.1.2.2 ∧ Off (fun k => O k ∨ Ov k) w w' ∧ ∀ k, Ov' k → Ov k ∨ w.heap.size ≤ k
theorem three_boxes (w : World) (r : Int × Int) (v : Value) (t1 t2 t3 : TypeId) (n : Int) :
    ∀ W, W = (((w.alloc (.cells #[.int .i64 r.1, .int .i64 r.2] t1)).alloc (.cells #[v] t2)).alloc (.cells #[.int .i64 n] t3)) →
    Below w.heap.size w W ∧ BoxA W w.heap.size r ∧ W.cell? ⟨w.heap.size + 1, 0, none⟩ = some v ∧ W.cell? ⟨w.heap.size + 2, 0, none⟩ = some (.int .i64 n) ∧ W.frozen? ⟨w.heap.size + 2, 0, none⟩ = false ∧ W.heap.size = w.heap.size + 3 := by
  rintro W rfl
  have s1 : (w.alloc (.cells #[.int .i64 r.1, .int .i64 r.2] t1)).heap.size = w.heap.size + 1 := by simp
  have s2 : ((w.alloc (.cells #[.int .i64 r.1, .int .i64 r.2] t1)).alloc (.cells #[v] t2)).heap.size = w.heap.size + 2 := by simp
  have b1 : Below w.heap.size w (w.alloc (.cells #[.int .i64 r.1, .int .i64 r.2] t1)) := (Below.refl _ _).alloc (Nat.le_refl _) _
  have x1 := BoxA.new w t1 r
  generalize w.alloc (.cells #[.int .i64 r.1, .int .i64 r.2] t1) = W1 at *
  have b2 : Below W1.heap.size W1 (W1.alloc (.cells #[v] t2)) := (Below.refl _ _).alloc (Nat.le_refl _) _
  have c2 := (alloc_at W1 v t2).1
  rw [s1] at c2
  generalize W1.alloc (.cells #[v] t2) = W2 at *
  have b3 : Below W2.heap.size W2 (W2.alloc (.cells #[.int .i64 n] t3)) := (Below.refl _ _).alloc (Nat.le_refl _) _
  have c3 := alloc_at W2 (.int .i64 n) t3
  rw [s2] at c3
  have s3 : (W2.alloc (.cells #[.int .i64 n] t3)).heap.size = w.heap.size + 3 := by simp [s2]
  generalize W2.alloc (.cells #[.int .i64 n] t3) = W3 at *
  have b123 : Below w.heap.size w W3 := (b1.trans (b2.mono (by omega))).trans (b3.mono (by omega))
  have x3 : BoxA W3 w.heap.size r := (x1.off (S := fun _ => False) (Off.of_below b2) id).off (S := fun _ => False) (Off.of_below b3) id
  have v3 : W3.cell? ⟨w.heap.size + 1, 0, none⟩ = some v := (b3.cell (p := ⟨w.heap.size + 1, 0, none⟩) (by show w.heap.size + 1 < W2.heap.size; omega)).trans c2
  exact ⟨b123, x3, v3, c3.1, c3.2, s3⟩
set_option maxRecDepth 100000 in
set_option maxHeartbeats 2000000 in
theorem pairs_any {σ : Type} {K : SnkF σ} {M : Snk K} (hK : K.Good) (C : Pcb f) {w : World} {T : Nat} {O Ov : Nat → Prop} {s : σ} {p : Int} {a : α} (h : TrAt M w T O s p) (hi : C.Iv w Ov a) (hr : K.Rdy s 0) (hc : C.Rdy a 16777216) (d1 : ∀ k, O k → ¬ Ov k) (d2 : ¬ Ov T) (r : Int × Int) :
    Calls Try.prog 28 #[.pointer (some ⟨T, 0, none⟩), addrV r, .func (.func C.gf) #[] C.lb] w (PsPost M C w T O Ov p (walkF K (pairsC f) 7 (s, 1048576, a) r 0 0)) := by
  obtain ⟨ra, rb⟩ := r
  have H := Lib.hid h
  have HI := Lib.hid hi
  have HC := Lib.hid hc
  have lT := h.lt
  have HOL := Lib.hid (fun k hk => M.lt h.at_ (k := k) hk)
  have HVL := Lib.hid (fun k hk => C.lt hi (k := k) hk)
  clear h hi hc
  unfold addrV
  go_enter Try.func28, Try.ntmps28
  go_upto_region 2 with (fail)
  refine wp_forget (fun W => Below w.heap.size w W ∧ BoxA W w.heap.size (ra, rb) ∧ W.cell? ⟨w.heap.size + 1, 0, none⟩ = some (.func (.func C.gf) #[] C.lb) ∧ W.cell? ⟨w.heap.size + 2, 0, none⟩ = some (.int .i64 1048576) ∧ W.frozen? ⟨w.heap.size + 2, 0, none⟩ = false ∧ W.heap.size = w.heap.size + 3) (three_boxes w (ra, rb) _ _ _ _ _ _ rfl) ?_
  rintro W0 ⟨hb0, hx, c1, c2, f2, hs⟩
  have b0 := hx.1
  have b1 := hx.2.1
  have lx := hx.lt
  simp only at b0 b1
  have hwk : WkAt (cb := pairsC f) M (visP C (w.heap.size + 1)) W0 T (w.heap.size + 2) O (fun k => Ov k ∨ k = w.heap.size + 1) p (s, 1048576, a) :=
    ⟨H.out.up hb0, ⟨Ov, C.off HI.out (Off.of_below (S := fun _ => False) hb0) (fun _ => False.elim), c1, fun e => by have := HVL.out _ e; omega, fun k => Iff.rfl⟩, c2, f2, fun k hk e => e.elim (d1 k hk) (fun e => by have := HOL.out k hk; omega),
      fun e => by have := HOL.out _ e; omega, fun e => e.elim (fun e => by have := HVL.out _ e; omega) (fun e => by omega), by omega, fun e => e.elim d2 (fun e => by omega)⟩
  have HW := Lib.hid (walk_any hK (visP C (w.heap.size + 1)) 7 W0 (s, 1048576, a) _ (ra, rb) 0 0 (by omega) (by omega) (by omega) hwk ⟨hr, by show (0 : Int) ≤ 1048576; omega, by show (1048576 : Int) ≤ 1048576; omega, by show C.Rdy a (16 * (1048576 : Int).toNat); exact HC.out⟩)
  have HB0 := Lib.hid hb0
  unfold addrV at HW
  clear hb0 hx hwk c1 c2 f2
  go_wp2_with fail
  refine HW.out.mono ?_
  rintro e W9 ⟨Ov9, rfl, hwk⟩
  generalize walkF K (pairsC f) 7 (s, 1048576, a) (ra, rb) 0 0 = y at *
  have HWK := Lib.hid hwk
  clear hwk HW b0 b1
  go_wp2
  go_ret
  obtain ⟨O1, i1, i2, i3, i4⟩ := HWK.out.at_.iv
  refine ⟨O1, rfl, HWK.out.at_.tr, i1, ?_, fun k e => ?_⟩
  · refine ((Off.of_below HB0.out).mono (fun _ => False.elim)).late HWK.out.off fun i hl hi => ?_
    rcases hi with e | (e | e) | e
    · exact .inl e
    · exact .inr e
    · omega
    · omega
  · rcases HWK.out.hO k ((i4 k).2 (.inl e)) with (e2 | e2) | e2
    · exact .inl e2
    · exact .inr (by omega)
    · exact .inr (by omega)
end
end Go.Proofs.Ytbmlggieifaniaa
