/- radix: Pairs, Check, All. radix: Check. radix: All: the sequence of a root's pairs. radix: a range over the pairs of a root. A range over any function: what the rounds and the sequence promise each other. delta: pairs: what its sequence hands to Pairs. delta: pairs: the sequence itself. delta: rows of pairs in memory. delta: slices.Collect of the sequence of pairs. delta: the first of some pairs. delta: what changes tells, plainly; what is told of changes; the loop's world. -/
import Derived.Test.YtgkdggidgaifhaaOl
import Derived.RangeFuncWrites
import Derived.RangeFuncNested
import Derived.RangeFuncBound
import Derived.RangeFuncCalls
import Derived.RangeFuncLeaves
import Derived.Shelf.Abstract
import Derived.Shelf.RegionOpen
import Derived.OwnWalkIn
import Derived.TacticsInMore
import Derived.LoopNIn
import Derived.LoopIn
import Derived.Stop.RegionWithIn
import Derived.Deep.CutBlock
namespace Go.Proofs.Ytgkdggidgaifhaa
open Go.RowKit
set_option linter.unusedVariables false
set_option linter.unusedSimpArgs false

theorem ent_fn {P : Program} {f : FuncId} {fn : Func} {c : Code} (hf : P.funcs[f]? = some fn) (hname : (fn.name == "runtime.NumGoroutine") = false) (hb : fn.body = some c) (args : Array Value) (w : World) : (callFunc f args).run P w = .ok (.enter f args) w := by
  have h1 : fn.name ≠ "runtime.NumGoroutine" := by simpa using hname
  simp [callFunc, hf, h1, hb, mark]
section
variable {α : Type} {f : α → Nat → Bytes → α × Bool}
/-- What Pairs hands to the walk. -/
def visP (C : Pcb f) (B : Nat) : Vis (pairsC f) where
  gf := 60
  lb := #[.pointer (some ⟨B, 0, none⟩)]
  ent := ent_fn Try.func60 (by kernel_rfl) rfl
  Iv := fun w O a => ∃ O1 : Nat → Prop, C.Iv w O1 a ∧ w.cell? ⟨B, 0, none⟩ = some (.func (.func C.gf) #[] C.lb) ∧ ¬ O1 B ∧ ∀ k, O k ↔ O1 k ∨ k = B
  Rdy := fun a n => C.Rdy a (16 * n)
  mono := fun a n m h hm => C.mono _ _ _ h (by omega)
  step := fun a r x n h h2 => pairsC_rdy C a r x n h h2
  off := fun {S O w w' a} h ho hs => by
    obtain ⟨O1, h1, h2, h3, h4⟩ := h
    exact ⟨O1, C.off h1 ho (fun k e e2 => hs k e ((h4 k).2 (.inl e2))), (ho.cell (p := ⟨B, 0, none⟩) (lt_of_cell h2) (fun e => hs B e ((h4 B).2 (.inr rfl)))).trans h2, h3, h4⟩
  lt := fun {O w a k} h hk => by
    obtain ⟨O1, h1, h2, h3, h4⟩ := h
    rcases (h4 k).1 hk with e | e
    · exact C.lt h1 e
    · rw [e]; exact lt_of_cell h2
  call := fun {w O a X x vv vl} r h hr hok hbr hn hX hv => by
    obtain ⟨O1, h1, h2, h3, h4⟩ := h
    refine (pairs1_any (C := C) (B := B) (Ov := O1) r ⟨h1, h2, h3, Off.refl _ _, fun k e => .inl e, hn, fun e => hX ((h4 X).2 (.inl e)), hv.mono fun b hb e => hb ((h4 b).2 (.inl e))⟩ (C.mono _ _ _ hr (by omega)) hok).mono ?_
    rintro e w' ⟨O2, he, hp⟩
    exact ⟨fun k => O2 k ∨ k = B, he, ⟨O2, hp.iv, hp.box, hp.nB, fun k => Iff.rfl⟩, hp.off.mono fun k e => (h4 k).2 (.inl e), fun k e => e.elim (fun e => (hp.hO k e).imp (fun e => (h4 k).2 (.inl e)) id) (fun e => .inl ((h4 k).2 (.inr e)))⟩
/-- Pairs has answered. -/
def PsPost {σ : Type} {K : SnkF σ} (M : Snk K) (C : Pcb f) (w : World) (T : Nat) (O Ov : Nat → Prop) (p : Int) (y : WkSt σ α × Bool × Int) (e : Ending) (w' : World) : Prop :=
  ∃ Ov' : Nat → Prop, e = .returned (.int .i64 y.2.2) ∧ TrAt M w' T O y.1.1 p ∧ C.Iv w' Ov' y.1.2.2 ∧ Off (fun k => O k ∨ Ov k) w w' ∧ ∀ k, Ov' k → Ov k ∨ w.heap.size ≤ k
theorem three_boxes (w : World) (r : Int × Int) (v : Value) (t1 t2 t3 : TypeId) (n : Int) :
    ∀ W, W = (((w.alloc (.cells #[.int .i64 r.1, .int .i64 r.2] t1)).alloc (.cells #[v] t2)).alloc (.cells #[.int .i64 n] t3)) →
    Below w.heap.size w W ∧ BoxA W w.heap.size r ∧ W.cell? ⟨w.heap.size + 1, 0, none⟩ = some v ∧ W.cell? ⟨w.heap.size + 2, 0, none⟩ = some (.int .i64 n) ∧ W.frozen? ⟨w.heap.size + 2, 0, none⟩ = false ∧ W.heap.size = w.heap.size + 3 := by
  rintro W rfl
  have s1 : (w.alloc (.cells #[.int .i64 r.1, .int .i64 r.2] t1)).heap.size = w.heap.size + 1 := by simp
  have s2 : ((w.alloc (.cells #[.int .i64 r.1, .int .i64 r.2] t1)).alloc (.cells #[v] t2)).heap.size = w.heap.size + 2 := by simp
  have b1 : Below w.heap.size w (w.alloc (.cells #[.int .i64 r.1, .int .i64 r.2] t1)) := (Below.refl _ _).alloc (Nat.le_refl _) _
  have x1 := BoxA.new w t1 r
  generalize w.alloc (.cells #[.int .i64 r.1, .int .i64 r.2] t1) = W1 at *
  have b2 : Below W1.heap.size W1 (W1.alloc (.cells #[v] t2)) := (Below.refl _ _).alloc (Nat.le_refl _) _
  have c2 := (alloc_at W1 v t2).1
  rw [s1] at c2
  generalize W1.alloc (.cells #[v] t2) = W2 at *
  have b3 : Below W2.heap.size W2 (W2.alloc (.cells #[.int .i64 n] t3)) := (Below.refl _ _).alloc (Nat.le_refl _) _
  have c3 := alloc_at W2 (.int .i64 n) t3
  rw [s2] at c3
  have s3 : (W2.alloc (.cells #[.int .i64 n] t3)).heap.size = w.heap.size + 3 := by simp [s2]
  generalize W2.alloc (.cells #[.int .i64 n] t3) = W3 at *
  have b123 : Below w.heap.size w W3 := (b1.trans (b2.mono (by omega))).trans (b3.mono (by omega))
  have x3 : BoxA W3 w.heap.size r := (x1.off (S := fun _ => False) (Off.of_below b2) id).off (S := fun _ => False) (Off.of_below b3) id
  have v3 : W3.cell? ⟨w.heap.size + 1, 0, none⟩ = some v := (b3.cell (p := ⟨w.heap.size + 1, 0, none⟩) (by show w.heap.size + 1 < W2.heap.size; omega)).trans c2
  exact ⟨b123, x3, v3, c3.1, c3.2, s3⟩
set_option maxRecDepth 100000 in
set_option maxHeartbeats 2000000 in
theorem pairs_any {σ : Type} {K : SnkF σ} {M : Snk K} (hK : K.Good) (C : Pcb f) {w : World} {T : Nat} {O Ov : Nat → Prop} {s : σ} {p : Int} {a : α} (h : TrAt M w T O s p) (hi : C.Iv w Ov a) (hr : K.Rdy s 0) (hc : C.Rdy a 16777216) (d1 : ∀ k, O k → ¬ Ov k) (d2 : ¬ Ov T) (r : Int × Int) :
    Calls Try.prog 41 #[.pointer (some ⟨T, 0, none⟩), addrV r, .func (.func C.gf) #[] C.lb] w (PsPost M C w T O Ov p (walkF K (pairsC f) 7 (s, 1048576, a) r 0 0)) := by
  obtain ⟨ra, rb⟩ := r
  have H := Lib.hid h
  have HI := Lib.hid hi
  have HC := Lib.hid hc
  have lT := h.lt
  have HOL := Lib.hid (fun k hk => M.lt h.at_ (k := k) hk)
  have HVL := Lib.hid (fun k hk => C.lt hi (k := k) hk)
  clear h hi hc
  unfold addrV
  go_enter Try.func41, Try.ntmps41
  go_upto_region 2 with (fail)
  refine wp_forget (fun W => Below w.heap.size w W ∧ BoxA W w.heap.size (ra, rb) ∧ W.cell? ⟨w.heap.size + 1, 0, none⟩ = some (.func (.func C.gf) #[] C.lb) ∧ W.cell? ⟨w.heap.size + 2, 0, none⟩ = some (.int .i64 1048576) ∧ W.frozen? ⟨w.heap.size + 2, 0, none⟩ = false ∧ W.heap.size = w.heap.size + 3) (three_boxes w (ra, rb) _ _ _ _ _ _ rfl) ?_
  rintro W0 ⟨hb0, hx, c1, c2, f2, hs⟩
  have b0 := hx.1
  have b1 := hx.2.1
  have lx := hx.lt
  simp only at b0 b1
  have hwk : WkAt (cb := pairsC f) M (visP C (w.heap.size + 1)) W0 T (w.heap.size + 2) O (fun k => Ov k ∨ k = w.heap.size + 1) p (s, 1048576, a) :=
    ⟨H.out.up hb0, ⟨Ov, C.off HI.out (Off.of_below (S := fun _ => False) hb0) (fun _ => False.elim), c1, fun e => by have := HVL.out _ e; omega, fun k => Iff.rfl⟩, c2, f2, fun k hk e => e.elim (d1 k hk) (fun e => by have := HOL.out k hk; omega),
      fun e => by have := HOL.out _ e; omega, fun e => e.elim (fun e => by have := HVL.out _ e; omega) (fun e => by omega), by omega, fun e => e.elim d2 (fun e => by omega)⟩
  have HW := Lib.hid (walk_any hK (visP C (w.heap.size + 1)) 7 W0 (s, 1048576, a) _ (ra, rb) 0 0 (by omega) (by omega) (by omega) hwk ⟨hr, by show (0 : Int) ≤ 1048576; omega, by show (1048576 : Int) ≤ 1048576; omega, by show C.Rdy a (16 * (1048576 : Int).toNat); exact HC.out⟩)
  have HB0 := Lib.hid hb0
  unfold addrV at HW
  clear hb0 hx hwk c1 c2 f2
  go_wp2_with fail
  refine HW.out.mono ?_
  rintro e W9 ⟨Ov9, rfl, hwk⟩
  generalize walkF K (pairsC f) 7 (s, 1048576, a) (ra, rb) 0 0 = y at *
  have HWK := Lib.hid hwk
  clear hwk HW b0 b1
  go_wp2
  go_ret
  obtain ⟨O1, i1, i2, i3, i4⟩ := HWK.out.at_.iv
  refine ⟨O1, rfl, HWK.out.at_.tr, i1, ?_, fun k e => ?_⟩
  · refine ((Off.of_below HB0.out).mono (fun _ => False.elim)).late HWK.out.off fun i hl hi => ?_
    rcases hi with e | (e | e) | e
    · exact .inl e
    · exact .inr e
    · omega
    · omega
  · rcases HWK.out.hO k ((i4 k).2 (.inl e)) with (e2 | e2) | e2
    · exact .inl e2
    · exact .inr (by omega)
    · exact .inr (by omega)
end
end Go.Proofs.Ytgkdggidgaifhaa
namespace Go.Proofs.Ytgkdggidgaifhaa
open Go.RowKit
set_option linter.unusedVariables false
set_option linter.unusedSimpArgs false

def chkF : Int → Nat → Bytes → Int × Bool := fun a _ _ => (inc64 a, true)
def chkC (B : Nat) : Pcb chkF where
  gf := 42
  lb := #[.pointer (some ⟨B, 0, none⟩)]
  ent := ent_fn Try.func42 (by kernel_rfl) rfl
  Iv := fun w O a => w.cell? ⟨B, 0, none⟩ = some (.int .i64 a) ∧ w.frozen? ⟨B, 0, none⟩ = false ∧ ∀ k, O k ↔ k = B
  Rdy := fun _ _ => True
  mono := fun _ _ _ _ _ => trivial
  step := fun _ _ _ _ _ _ => trivial
  off := fun {S O w w' a} h ho hs => ⟨(ho.cell (p := ⟨B, 0, none⟩) (lt_of_cell h.1) (fun e => hs B e ((h.2.2 B).2 rfl))).trans h.1, (ho.frozen (p := ⟨B, 0, none⟩) (lt_of_cell h.1) (fun e => hs B e ((h.2.2 B).2 rfl))).trans h.2.1, h.2.2⟩
  lt := fun {O w a k} h hk => by rw [(h.2.2 k).1 hk]; exact lt_of_cell h.1
  call := fun {w O a key v L} h _ _ _ _ _ => by
    obtain ⟨c0, f0, hO⟩ := h
    have HO := Lib.hid hO
    have lB := lt_of_cell c0
    clear hO
    go_enter Try.func42, Try.ntmps42
    go_wp2
    go_ret
    refine ⟨(· = B), rfl, ⟨World.cell?_setCell_same _ _ _ c0, (World.frozen?_setCell _ _ _ _).trans f0, fun k => Iff.rfl⟩, ?_, fun k e => .inl ((HO.out k).2 e)⟩
    exact ((Off.refl (· = B) w).setCell (p := ⟨B, 0, none⟩) rfl _).mono fun k e => (HO.out k).2 e
def ChPost {σ : Type} {K : SnkF σ} (M : Snk K) (w : World) (T : Nat) (O : Nat → Prop) (p : Int) (y : WkSt σ Int × Bool × Int) (e : Ending) (w' : World) : Prop :=
  e = .returned (.tuple #[.int .i64 (if y.2.2 = 0 then y.1.2.2 else 0), .int .i64 y.2.2]) ∧ TrAt M w' T O y.1.1 p ∧ Off O w w'
set_option maxRecDepth 100000 in
set_option maxHeartbeats 2000000 in
theorem check_any {σ : Type} {K : SnkF σ} {M : Snk K} (hK : K.Good) {w : World} {T : Nat} {O : Nat → Prop} {s : σ} {p : Int} (h : TrAt M w T O s p) (hr : K.Rdy s 0) (r : Int × Int) :
    Calls Try.prog 25 #[.pointer (some ⟨T, 0, none⟩), addrV r] w (ChPost M w T O p (walkF K (pairsC chkF) 7 (s, 1048576, 0) r 0 0)) := by
  obtain ⟨ra, rb⟩ := r
  have H := Lib.hid h
  have lT := h.lt
  have HOL := Lib.hid (fun k hk => M.lt h.at_ (k := k) hk)
  clear h
  unfold addrV
  go_enter Try.func25, Try.ntmps25
  go_upto_region 2 with (fail)
  refine wp_forget (fun W => Below w.heap.size w W ∧ BoxA W w.heap.size (ra, rb) ∧ W.cell? ⟨w.heap.size + 1, 0, none⟩ = some (.int .i64 0) ∧ W.frozen? ⟨w.heap.size + 1, 0, none⟩ = false ∧ W.heap.size = w.heap.size + 2) ?_ ?_
  · have b1 : Below w.heap.size w (w.alloc (.cells #[.int .i64 ra, .int .i64 rb] 30)) := (Below.refl _ _).alloc (Nat.le_refl _) _
    have x1 := BoxA.new w 30 (ra, rb)
    have s1 : (w.alloc (.cells #[.int .i64 ra, .int .i64 rb] 30)).heap.size = w.heap.size + 1 := by simp
    simp only at x1
    generalize w.alloc (.cells #[.int .i64 ra, .int .i64 rb] 30) = W1 at *
    have b2 : Below W1.heap.size W1 (W1.alloc (.cells #[.int .i64 0] 3)) := (Below.refl _ _).alloc (Nat.le_refl _) _
    have c2 := alloc_at W1 (.int .i64 0) 3
    rw [s1] at c2
    exact ⟨b1.trans (b2.mono (by omega)), x1.off (S := fun _ => False) (Off.of_below b2) id, c2.1, c2.2, by simp [s1]⟩
  rintro W0 ⟨hb0, hx, c1, f1, hs⟩
  have b0 := hx.1
  have b1 := hx.2.1
  have lx := hx.lt
  simp only at b0 b1
  have HP : Hid (Calls Try.prog 41 #[.pointer (some ⟨T, 0, none⟩), .agg #[.int .i64 ra, .int .i64 rb], .func (.func 42) #[] #[.pointer (some ⟨w.heap.size + 1, 0, none⟩)]] W0 (PsPost M (chkC (w.heap.size + 1)) W0 T O (· = w.heap.size + 1) p (walkF K (pairsC chkF) 7 (s, 1048576, 0) (ra, rb) 0 0))) := Lib.hid (pairs_any hK (chkC (w.heap.size + 1)) (H.out.up hb0) (Ov := (· = w.heap.size + 1)) (a := (0 : Int)) ⟨c1, f1, fun k => Iff.rfl⟩ hr trivial (fun k hk e => by have := HOL.out k hk; omega) (by omega) (ra, rb))
  have HB0 := Lib.hid hb0
  obtain ⟨y, hy⟩ : ∃ y, walkF K (pairsC chkF) 7 (s, 1048576, 0) (ra, rb) 0 0 = y := ⟨_, rfl⟩
  have HY := Lib.hid hy
  rw [hy] at HP
  clear hb0 hx c1 f1 hy
  go_wp2_with fail
  refine HP.out.mono ?_
  rintro e W9 ⟨Ov9, rfl, htr, ⟨c9, f9, hO9⟩, hof, hOv⟩
  have HT := Lib.hid htr
  have HF := Lib.hid (((Off.of_below HB0.out).mono (S' := O) (fun _ => False.elim)).late hof fun i hl hi => hi.elim id (fun e => by omega))
  have hn9 : Ov9 (w.heap.size + 1) := (hO9 _).2 rfl
  obtain ⟨⟨s9, left9, a9⟩, more9, er9⟩ := y
  simp only at c9 HT HY
  have l9 := lt_of_cell c9
  clear htr hof HP b0 b1 hO9 hOv hn9
  by_cases he : er9 = 0
  · subst he
    go_wp2
    go_ret2
    rw [HY.out]
    exact ⟨rfl, HT.out, HF.out⟩
  · have hb : (er9 != 0) = true := by simp [he]
    have HE := Lib.hid he
    clear he
    go_wp2
    go_ret2
    rw [HY.out]
    exact ⟨by simp only [HE.out, if_false]; rfl, HT.out, HF.out⟩
end Go.Proofs.Ytgkdggidgaifhaa
namespace Go.Proofs.Ytgkdggidgaifhaa
open Go.RowKit
set_option linter.unusedVariables false
set_option linter.unusedSimpArgs false

/-- What is ranged over the pairs: a loop's rounds, its own state, its own blocks. -/
structure Yld {α : Type} (f : α → Nat → Bytes → α × Bool) where
  l : Nat
  Iv : World → (Nat → Prop) → α → Prop
  Rdy : α → Nat → Prop
  mono : ∀ a n m, Rdy a n → m ≤ n → Rdy a m
  step : ∀ a k v n, Rdy a (n + 1) → (f a k v).2 = true → Rdy (f a k v).1 n
  off : ∀ {S O : Nat → Prop} {w w' : World} {a : α}, Iv w O a → Off S w w' → (∀ k, S k → ¬ O k) → Iv w' O a
  lt : ∀ {O : Nat → Prop} {w : World} {a : α} {k : Nat}, Iv w O a → O k → k < w.heap.size
  call : ∀ {w : World} {O : Nat → Prop} {a : α} {key : Nat} {v : Value} {L : Bytes}, Iv w O a → Rdy a 1 → key < 16777216 → SlB w v L → L.length ≤ 256 → VIn (fun b => ¬ O b) v →
    YieldAt Fence.wide 8 Try.prog l #[.int .i64 (key : Nat), v] w (VsPost Iv w O (f a key L))
section
variable {α : Type} {f : α → Nat → Bytes → α × Bool}
set_option maxRecDepth 100000 in
set_option maxHeartbeats 4000000 in
theorem all11_any (Y : Yld f) {w : World} {B : Nat} {O : Nat → Prop} {a : α} {key : Nat} {v : Value} {L : Bytes} (hi : Y.Iv w O a) (hB : w.cell? ⟨B, 0, none⟩ = some (.func (.yield Y.l) #[] #[])) (hr : Y.Rdy a 1) (hk : key < 16777216) (hv : SlB w v L) (hL : L.length ≤ 256) :
    Calls Try.prog 44 #[.int .i64 (key : Nat), v, .pointer (some ⟨B, 0, none⟩)] w (VsPost Y.Iv w O (f a key L)) := by
  obtain ⟨A, n, c, rfl, hnc, hs⟩ := hv
  have hn := hs.1
  have HC : Hid (∀ w', Below w.heap.size w w' → CallsIn Fence.wide 8 Try.prog 45 #[.slice A n c] w' fun e w2 => ∃ A' c', e = .returned (.slice A' n c') ∧ FrB w' w2 (.slice A' n c') L) := Lib.hid fun w' hb => callsIn_wide.2 ((clone_any w' A n c L (hs.up hb) (by omega)).mono fun e w2 ⟨A', c', he, hf, _⟩ => ⟨A', c', he, hf⟩)
  have HY : Hid (∀ (w' : World) (A' : Option Addr) (c' : Nat), Below w.heap.size w w' → SlB w' (.slice A' n c') L → VIn (fun b => w.heap.size ≤ b) (.slice A' n c') → YieldAt Fence.wide 8 Try.prog Y.l #[.int .i64 (key : Nat), .slice A' n c'] w' (VsPost Y.Iv w O (f a key L))) := Lib.hid fun w' A' c' hb hs' hv' => by
    have hi' := Y.off hi (Off.of_below (S := fun _ => False) hb) (fun _ => False.elim)
    have h1 := Y.call (key := key) hi' hr hk hs' hL (hv'.mono fun b hb2 e => by have := Y.lt hi e; omega)
    exact h1.mono fun e w2 ⟨O', he, hi2, ho2, hO2⟩ => ⟨O', he, hi2, ((Off.of_below hb).mono (S' := O) (fun _ => False.elim)).trans ho2, fun k hk => (hO2 k hk).imp id (Nat.le_trans hb.size)⟩
  have lB := lt_of_cell hB
  clear hi hs
  refine (callsIn_wide (n := 9)).1 ?_
  refine callsIn_of_wp Try.func44 rfl trivial ?_ rfl
  simp only [Try.ntmps44, List.size_toArray, List.length_cons, List.length_nil, Nat.reduceAdd, Nat.reduceSub, Array.replicate_succ, Array.replicate_zero, List.push_toArray, List.append_toArray, List.nil_append, List.cons_append]
  gi_wp2
  gi_region_with (first
    | (refine ⟨trivial, ?_⟩; gi_at_call 45; go_loud (refine (HC.out _ (Below.refl _ _).drew).mono ?_; rintro e w2 ⟨A', c', rfl, hf⟩; have hb2 := (Below.refl w.heap.size w).drew.trans (hf.bel.mono (by simp)); have cB2 := (hb2.cell (p := ⟨B, 0, none⟩) lB).trans hB; have hfs := hf.slA; obtain ⟨fn, tmps, assign, body, hy, hR⟩ := HY.out w2 A' c' hb2 hfs.1.slB (fun b o n c e _ => hfs.2 b o n c e); (try dsimp only at hy); have HR := Lib.hid hR; clear hR hf hfs hb2))
    | (go_simp; (with_reducible refine HR.out.mono ?_); rintro e w3 ⟨O', rfl, hi3, ho3, hO3⟩; have H3 := Lib.hid (show Y.Iv w3 O' (f a key L).1 ∧ Off O w w3 ∧ ∀ k, O' k → O k ∨ w.heap.size ≤ k from ⟨hi3, ho3, hO3⟩); clear hi3 ho3 hO3))
  all_goals
    gi_wp2
    go_ret
    exact ⟨O', rfl, H3.out.1, H3.out.2.1, H3.out.2.2⟩
/-- What All's sequence hands to Pairs. -/
def pcbY (Y : Yld f) (B : Nat) : Pcb f where
  gf := 44
  lb := #[.pointer (some ⟨B, 0, none⟩)]
  ent := ent_fn Try.func44 (by kernel_rfl) rfl
  Iv := fun w O a => ∃ O1 : Nat → Prop, Y.Iv w O1 a ∧ w.cell? ⟨B, 0, none⟩ = some (.func (.yield Y.l) #[] #[]) ∧ ¬ O1 B ∧ ∀ k, O k ↔ O1 k ∨ k = B
  Rdy := Y.Rdy
  mono := Y.mono
  step := Y.step
  off := fun {S O w w' a} h ho hs => by
    obtain ⟨O1, h1, h2, h3, h4⟩ := h
    exact ⟨O1, Y.off h1 ho (fun k e e2 => hs k e ((h4 k).2 (.inl e2))), (ho.cell (p := ⟨B, 0, none⟩) (lt_of_cell h2) (fun e => hs B e ((h4 B).2 (.inr rfl)))).trans h2, h3, h4⟩
  lt := fun {O w a k} h hk => by
    obtain ⟨O1, h1, h2, h3, h4⟩ := h
    rcases (h4 k).1 hk with e | e
    · exact Y.lt h1 e
    · rw [e]; exact lt_of_cell h2
  call := fun {w O a key v L} h hr hk hs hL hv => by
    obtain ⟨O1, h1, h2, h3, h4⟩ := h
    refine (all11_any Y h1 h2 hr hk hs hL).mono ?_
    rintro e w' ⟨O2, he, hi, ho, hO⟩
    have hB := lt_of_cell h2
    refine ⟨fun k => O2 k ∨ k = B, he, ⟨O2, hi, (ho.cell (p := ⟨B, 0, none⟩) hB h3).trans h2, fun e => ?_, fun k => Iff.rfl⟩, ho.mono fun k e => (h4 k).2 (.inl e), fun k e => e.elim (fun e => (hO k e).imp (fun e => (h4 k).2 (.inl e)) id) (fun e => .inl ((h4 k).2 (.inr e)))⟩
    rcases hO B e with e | e
    · exact h3 e
    · omega
/-- The sequence has come to its end. -/
def SqPost {σ : Type} {K : SnkF σ} (M : Snk K) (Y : Yld f) (w : World) (T : Nat) (O Ov : Nat → Prop) (p : Int) (y : WkSt σ α × Bool × Int) (e : Ending) (w' : World) : Prop :=
  ∃ Ov' : Nat → Prop, (∃ v, e = .returned v) ∧ TrAt M w' T O y.1.1 p ∧ Y.Iv w' Ov' y.1.2.2 ∧ Off (fun k => O k ∨ Ov k) w w' ∧ ∀ k, Ov' k → Ov k ∨ w.heap.size ≤ k
set_option maxRecDepth 100000 in
set_option maxHeartbeats 2000000 in
theorem all1_any {σ : Type} {K : SnkF σ} {M : Snk K} (hK : K.Good) (Y : Yld f) {w : World} {T B2 B3 : Nat} {O Ov : Nat → Prop} {s : σ} {p : Int} {a : α} {r : Int × Int} (h : TrAt M w T O s p) (hi : Y.Iv w Ov a) (hr : K.Rdy s 0) (hc : Y.Rdy a 16777216) (d1 : ∀ k, O k → ¬ Ov k) (d2 : ¬ Ov T)
    (c2 : w.cell? ⟨B2, 0, none⟩ = some (.pointer (some ⟨T, 0, none⟩))) (c3 : w.cell? ⟨B3, 0, none⟩ = some (.int .i64 r.1)) (c4 : w.cell? ⟨B3, 1, none⟩ = some (.int .i64 r.2)) :
    Calls Try.prog 43 #[.func (.yield Y.l) #[] #[], .pointer (some ⟨B2, 0, none⟩), .pointer (some ⟨B3, 0, none⟩)] w (SqPost M Y w T O Ov p (walkF K (pairsC f) 7 (s, 1048576, a) r 0 0)) := by
  obtain ⟨ra, rb⟩ := r
  have H := Lib.hid h
  have HI := Lib.hid hi
  have HC := Lib.hid hc
  have HOL := Lib.hid (fun k hk => M.lt h.at_ (k := k) hk)
  have HVL := Lib.hid (fun k hk => Y.lt hi (k := k) hk)
  have hT := h.lt
  have l2 := lt_of_cell c2
  have l3 := lt_of_cell c3
  simp only at c3 c4
  clear h hi hc
  go_enter Try.func43, Try.ntmps43
  go_upto_region 1 with (fail)
  have hb := (Below.refl w.heap.size w).alloc (Nat.le_refl _) (.cells #[.func (.yield Y.l) #[] #[]] 99)
  have cB := (alloc_at w (.func (.yield Y.l) #[] #[]) 99).1
  refine wp_forget (fun W => Below w.heap.size w W ∧ W.cell? ⟨w.heap.size, 0, none⟩ = some (.func (.yield Y.l) #[] #[])) ⟨hb, cB⟩ ?_
  clear hb cB
  rintro W0 ⟨hb, cB⟩
  have e2 := (hb.cell (p := ⟨B2, 0, none⟩) l2).trans c2
  have e3 := (hb.cell (p := ⟨B3, 0, none⟩) l3).trans c3
  have e4 := (hb.cell (p := ⟨B3, 1, none⟩) l3).trans c4
  have l2' := lt_of_cell e2
  have l3' := lt_of_cell e3
  have HP : Hid (Calls Try.prog 41 #[.pointer (some ⟨T, 0, none⟩), .agg #[.int .i64 ra, .int .i64 rb], .func (.func 44) #[] #[.pointer (some ⟨w.heap.size, 0, none⟩)]] W0 (PsPost M (pcbY Y w.heap.size) W0 T O (fun k => Ov k ∨ k = w.heap.size) p (walkF K (pairsC f) 7 (s, 1048576, a) (ra, rb) 0 0))) := Lib.hid
    (pairs_any hK (pcbY Y w.heap.size) (H.out.up hb) (a := a) ⟨Ov, Y.off HI.out (Off.of_below (S := fun _ => False) hb) (fun _ => False.elim), cB, fun e => by have := HVL.out _ e; omega, fun k => Iff.rfl⟩ hr HC.out
      (fun k hk e => e.elim (d1 k hk) (fun e => by have := HOL.out k hk; omega)) (fun e => e.elim d2 (fun e => by omega)) (ra, rb))
  have HB := Lib.hid hb
  generalize walkF K (pairsC f) 7 (s, 1048576, a) (ra, rb) 0 0 = y at *
  clear hb c2 c3 c4 cB
  go_wp2_with fail
  refine HP.out.mono ?_
  rintro e W9 ⟨Ov9, rfl, htr, ⟨O1, i1, i2, i3, i4⟩, hof, hO9⟩
  have HF : Hid (Off (fun k => O k ∨ Ov k) w W9) := Lib.hid (((Off.of_below HB.out).mono (fun _ => False.elim)).late hof fun i hl hi => by
    rcases hi with e | e | e
    · exact .inl e
    · exact .inr e
    · omega)
  have HT := Lib.hid htr
  have HI1 := Lib.hid i1
  have HO1 : Hid (∀ k, O1 k → Ov k ∨ w.heap.size ≤ k) := Lib.hid fun k e => by
    have := HB.out.size
    rcases hO9 k ((i4 k).2 (.inl e)) with (e2 | e2) | e2
    · exact .inl e2
    · exact .inr (by omega)
    · exact .inr (by omega)
  clear htr i1 i2 i3 i4 hof hO9 HP
  go_wp2
  go_end0
  exact ⟨O1, ⟨_, rfl⟩, HT.out, HI1.out, HF.out, HO1.out⟩
def AlPost (w : World) (T : Nat) (r : Int × Int) (e : Ending) (w' : World) : Prop :=
  e = .returned (.func (.func 43) #[] #[.pointer (some ⟨w.heap.size, 0, none⟩), .pointer (some ⟨w.heap.size + 1, 0, none⟩)]) ∧ Below w.heap.size w w' ∧ w'.heap.size = w.heap.size + 2 ∧ w'.cell? ⟨w.heap.size, 0, none⟩ = some (.pointer (some ⟨T, 0, none⟩)) ∧ BoxA w' (w.heap.size + 1) r
theorem all_any (w : World) (T : Nat) (r : Int × Int) : Calls Try.prog 26 #[.pointer (some ⟨T, 0, none⟩), addrV r] w (AlPost w T r) := by
  obtain ⟨ra, rb⟩ := r
  unfold addrV
  go_enter Try.func26, Try.ntmps26
  go_wp2
  go_ret
  have b1 := (Below.refl w.heap.size w).alloc (Nat.le_refl _) (.cells #[.pointer (some ⟨T, 0, none⟩)] 25)
  have c1 := (alloc_at w (.pointer (some ⟨T, 0, none⟩)) 25).1
  have s1 : (w.alloc (.cells #[.pointer (some ⟨T, 0, none⟩)] 25)).heap.size = w.heap.size + 1 := by simp
  generalize w.alloc (.cells #[.pointer (some ⟨T, 0, none⟩)] 25) = W1 at *
  have b2 : Below W1.heap.size W1 (W1.alloc (.cells #[.int .i64 ra, .int .i64 rb] 30)) := (Below.refl _ _).alloc (Nat.le_refl _) _
  have x2 := BoxA.new W1 30 (ra, rb)
  rw [s1] at x2
  exact ⟨by simp [s1], b1.trans (b2.mono (by omega)), by simp [s1], (b2.cell (p := ⟨w.heap.size, 0, none⟩) (by show w.heap.size < W1.heap.size; omega)).trans c1, x2⟩
end
end Go.Proofs.Ytgkdggidgaifhaa
namespace Go.Proofs.Ytgkdggidgaifhaa
open Go.RowKit
set_option linter.unusedVariables false
set_option linter.unusedSimpArgs false

theorem off_putObj (W : World) {l : Nat} (o : Obj) : Off (· = l) W (W.putObj l o) :=
  ⟨rfl, rfl, rfl, by simp, fun i _ hn => World.putObj_heap_other hn⟩
/-- How a round's body may be left. -/
def bdPost {α : Type} (al : α → Bool) (Iv : World → (Nat → Prop) → α → Prop) (Ix : Code → World → (Nat → Prop) → α → Prop) (O1 : Nat → Prop) (W : World) (y : α) : Exit → Act → World → Prop
  | .normal, _, W' => al y = true ∧ ∃ O' : Nat → Prop, Iv W' O' y ∧ Off O1 W W' ∧ ∀ k, O' k → O1 k ∨ W.heap.size ≤ k
  | .ret, _, W' => al y = false ∧ ∃ O' : Nat → Prop, Ix .ret W' O' y ∧ Off O1 W W' ∧ ∀ k, O' k → O1 k ∨ W.heap.size ≤ k
  | .exit id, _, W' => al y = false ∧ ∃ O' : Nat → Prop, Ix (.exit id) W' O' y ∧ Off O1 W W' ∧ ∀ k, O' k → O1 k ∨ W.heap.size ≤ k
  | .goto t, _, W' => al y = false ∧ ∃ O' : Nat → Prop, Ix (.goto t) W' O' y ∧ Off O1 W W' ∧ ∀ k, O' k → O1 k ∨ W.heap.size ≤ k
  | .panic _, _, _ => False
  | .outgrown, _, _ => False
/-- A loop's rounds. -/
structure LpAt {α : Type} (al : α → Bool) (Iv : World → (Nat → Prop) → α → Prop) (Ix : Code → World → (Nat → Prop) → α → Prop) (rec : LoopState → Option Code → Loop) (L D : Nat) (w : World) (O : Nat → Prop) (a : α) (O1 : Nat → Prop) : Prop where
  eqO : ∀ k, O k ↔ O1 k ∨ k = L ∨ k = D
  nL : ¬ O1 L
  nD : ¬ O1 D
  df : w.heap[D]? = some (.deferred (some []))
  yes : al a = true → Iv w O1 a ∧ w.heap[L]? = some (.loop (rec .ready none))
  no : al a = false → ∃ c, Ix c w O1 a ∧ w.heap[L]? = some (.loop (rec .done (some c)))
theorem heap_off {S : Nat → Prop} {w w' : World} {k : Nat} {o : Obj} (h : w.heap[k]? = some o) (ho : Off S w w') (hs : ¬ S k) : w'.heap[k]? = some o := (ho.block k (Array.getElem?_eq_some_iff.1 h).1 hs).trans h
set_option maxHeartbeats 4000000 in
theorem range_pairs {σ α : Type} {K : SnkF σ} {M : Snk K} (hK : K.Good) {g : Operand} {ps : Array Tmp} {assign body : Code} {Q : Exit → Act → World → Prop} {a : Act} {w : World} {B2 B3 T : Nat} {O Ov : Nat → Prop} {s : σ} {p : Int} {r : Int × Int}
    (hg : a.eval g = .func (.func 43) #[] #[.pointer (some ⟨B2, 0, none⟩), .pointer (some ⟨B3, 0, none⟩)]) (hps : ps.size = 2)
    (f : α → Nat → Bytes → α × Bool) (al : α → Bool) (hal : ∀ x k v, al x = true → (f x k v).2 = al (f x k v).1)
    (Iv : World → (Nat → Prop) → α → Prop) (Ix : Code → World → (Nat → Prop) → α → Prop)
    (ivOff : ∀ {S O : Nat → Prop} {w w' : World} {x : α}, Iv w O x → Off S w w' → (∀ k, S k → ¬ O k) → Iv w' O x) (ivLt : ∀ {O : Nat → Prop} {w : World} {x : α} {k : Nat}, Iv w O x → O k → k < w.heap.size)
    (ixOff : ∀ {c : Code} {S O : Nat → Prop} {w w' : World} {x : α}, Ix c w O x → Off S w w' → (∀ k, S k → ¬ O k) → Ix c w' O x) (ixLt : ∀ {c : Code} {O : Nat → Prop} {w : World} {x : α} {k : Nat}, Ix c w O x → O k → k < w.heap.size)
    (a₁ : Nat → Value → Act) (x0 : α) (hx0 : al x0 = true)
    (h : TrAt M w T O s p) (hi : Iv w Ov x0) (hr : K.Rdy s 0) (d1 : ∀ k, O k → ¬ Ov k) (d2 : ¬ Ov T)
    (c2 : w.cell? ⟨B2, 0, none⟩ = some (.pointer (some ⟨T, 0, none⟩))) (c3 : BoxA w B3 r)
    (hassign : ∀ (l : Nat) (key : Nat) (v : Value) (W : World) (K : Act → World → Prop), K (a₁ key v) W →
      assign.wpIn (Fence.wide.inRound l) 8 Try.prog (Exit.then K (fun _ _ _ => False)) { tmps := (ps.zip #[.int .i64 (key : Nat), v]).foldl (fun t (p, v) => t.setIfInBounds p v) a.tmps, defers := [] } W)
    (hbody : ∀ (l : Nat) (x : α) (key : Nat) (v : Value) (Lb : Bytes) (W : World) (O1 : Nat → Prop), Iv W O1 x → al x = true → key < 16777216 → SlB W v Lb → Lb.length ≤ 256 → VIn (fun b => ¬ O1 b) v → body.wpIn (Fence.wide.inRound l) 8 Try.prog (bdPost al Iv Ix O1 W (f x key Lb).1) (a₁ key v) W)
    (hend : ∀ (D : Nat) (W : World) (O1 : Nat → Prop) (y : WkSt σ α × Bool × Int), y = walkF K (pairsC f) 7 (s, 1048576, x0) r 0 0 → w.heap.size ≤ D → W.heap[D]? = some (.deferred (some [])) → TrAt M W T O y.1.1 p → Off (fun k => O k ∨ Ov k) w W → (∀ k, O1 k → Ov k ∨ w.heap.size ≤ k) →
      (al y.1.2.2 = true → Iv W O1 y.1.2.2 → Q .normal { a with defers := { target := .collected D, args := #[] } :: a.defers } W) ∧
      (al y.1.2.2 = false → ∀ c, Ix c W O1 y.1.2.2 → c.wpIn Fence.wide 9 Try.prog Q { a with defers := { target := .collected D, args := #[] } :: a.defers } W)) :
    (Code.rangeFunc g ps assign body).wpIn Fence.wide 9 Try.prog Q a w := by
  refine wpIn_rangeFunc ?_
  intro fn hfn
  obtain ⟨rec, hrec⟩ : ∃ rec : LoopState → Option Code → Loop, rec = fun st pe => { state := st, pending := pe, fn, tmps := a.tmps, params := ps, assign, body, defers := w.heap.size } := ⟨_, rfl⟩
  obtain ⟨W1, hW1⟩ : ∃ W1, (w.alloc (.deferred (some []))).alloc (.loop (rec .ready none)) = W1 := ⟨_, rfl⟩
  have hL1 : W1.heap[w.heap.size + 1]? = some (.loop (rec .ready none)) := by
    rw [← hW1]; have := World.alloc_heap_new (w.alloc (.deferred (some []))) (.loop (rec .ready none)); rwa [World.size_alloc] at this
  have hK1 : W1.heap[w.heap.size]? = some (.deferred (some [])) := by
    rw [← hW1]; exact (Below.heap_alloc _ _ _ (by simp)).trans (World.alloc_heap_new w _)
  have hb1 : Below w.heap.size w W1 := by
    rw [← hW1]; exact ((Below.refl _ w).alloc (Nat.le_refl _) _).alloc (by simp) _
  obtain ⟨L, hL⟩ : ∃ L, w.heap.size + 1 = L := ⟨_, rfl⟩
  obtain ⟨D, hD⟩ : ∃ D, w.heap.size = D := ⟨_, rfl⟩
  have hOlt : ∀ k, O k → k < w.heap.size := fun k hk => M.lt h.at_ hk
  have hVlt : ∀ k, Ov k → k < w.heap.size := fun k hk => ivLt hi hk
  have hTlt := h.lt
  let Y : Yld f := {
    l := L
    Iv := fun w O x => ∃ O1, LpAt al Iv Ix rec L D w O x O1
    Rdy := fun x _ => al x = true
    mono := fun x n m h _ => h
    step := fun x k v n h h2 => (hal x k v h).symm.trans h2
    off := fun {S O w w' x} h ho hs => by
      obtain ⟨O1, k⟩ := h
      have hs1 : ∀ k', S k' → ¬ O1 k' := fun k' e e2 => hs k' e ((k.eqO k').2 (.inl e2))
      exact ⟨O1, k.eqO, k.nL, k.nD, heap_off k.df ho (fun e => hs D e ((k.eqO D).2 (.inr (.inr rfl)))), fun e => ⟨ivOff (k.yes e).1 ho hs1, heap_off (k.yes e).2 ho (fun e => hs L e ((k.eqO L).2 (.inr (.inl rfl))))⟩, fun e => by
        obtain ⟨c, i1, i2⟩ := k.no e
        exact ⟨c, ixOff i1 ho hs1, heap_off i2 ho (fun e => hs L e ((k.eqO L).2 (.inr (.inl rfl))))⟩⟩
    lt := fun {O w x k} h hk => by
      obtain ⟨O1, hh⟩ := h
      rcases (hh.eqO k).1 hk with e | e | e
      · cases hx : al x with
        | true => exact ivLt (hh.yes hx).1 e
        | false => obtain ⟨c, i1, _⟩ := hh.no hx; exact ixLt i1 e
      · rw [e]
        cases hx : al x with
        | true => exact (Array.getElem?_eq_some_iff.1 (hh.yes hx).2).1
        | false => obtain ⟨c, _, i2⟩ := hh.no hx; exact (Array.getElem?_eq_some_iff.1 i2).1
      · rw [e]; exact (Array.getElem?_eq_some_iff.1 hh.df).1
    call := fun {W O x key v Lb} h hx hk hs hLb hv => by
      obtain ⟨O1, hh⟩ := h
      obtain ⟨hiv, hl⟩ := hh.yes hx
      have hy := run_yield (P := Try.prog) (args := #[.int .i64 (key : Nat), v]) hl (by rw [hrec]; exact hps.symm)
      rw [hrec] at hy
      refine ⟨fn, _, assign, body, hy, roundIn_of_wpIn hfn (hassign _ key v W _ ⟨_, run_beginRound hl (by rw [hrec]), ?_⟩)⟩
      clear hy
      have hlt : L < W.heap.size := (Array.getElem?_eq_some_iff.1 hl).1
      have hbusy := off_putObj W (l := L) (.loop { rec .ready none with state := .busy })
      have hl2 : (W.putObj L (.loop { rec .ready none with state := .busy })).heap[L]? = some (.loop { rec .ready none with state := .busy }) := World.putObj_heap_same hlt
      have hvL : VIn (fun b => ¬ b = L) v := hv.mono fun b hb e => hb (by rw [e]; exact (hh.eqO L).2 (.inr (.inl rfl)))
      have hb2 := hbody L x key v Lb _ O1 (ivOff hiv hbusy (fun k e e2 => hh.nL (by rw [← e]; exact e2))) hx hk (hs.offP hbusy hvL) hLb (hv.mono fun b hb e => hb ((hh.eqO b).2 (.inl e)))
      have hLD : L ≠ D := by omega
      have hd2 : (W.putObj L (.loop { rec .ready none with state := .busy })).heap[D]? = some (.deferred (some [])) := heap_off hh.df hbusy (fun e => hLD e.symm)
      have hsz2 : (W.putObj L (.loop { rec .ready none with state := .busy })).heap.size = W.heap.size := by simp
      generalize W.putObj L (.loop { rec .ready none with state := .busy }) = Wb at *
      refine wpIn_mono hb2 ?_
      have hal2 := hal x key Lb hx
      generalize f x key Lb = y at *
      have fin : ∀ (jump : Option Code) (W3 : World), Off O1 Wb W3 →
          (Instr.endRound L jump).run Try.prog W3 = .ok (.bool jump.isNone) (W3.putObj L (.loop (rec (if jump.isNone then .ready else .done) jump))) ∧
          (W3.putObj L (.loop (rec (if jump.isNone then .ready else .done) jump))).heap[L]? = some (.loop (rec (if jump.isNone then .ready else .done) jump)) ∧
          (W3.putObj L (.loop (rec (if jump.isNone then .ready else .done) jump))).heap[D]? = some (.deferred (some [])) ∧ Off (· = L) W3 (W3.putObj L (.loop (rec (if jump.isNone then .ready else .done) jump))) := fun jump W3 ho3 => by
        have hl3 := heap_off hl2 ho3 hh.nL
        have := run_endRound (P := Try.prog) jump hl3
        rw [hrec] at this ⊢
        exact ⟨this, World.putObj_heap_same (Array.getElem?_eq_some_iff.1 hl3).1, heap_off (heap_off hd2 ho3 hh.nD) (off_putObj W3 _) (fun e => hLD e.symm), off_putObj W3 _⟩
      have hoff : ∀ {W3 W4 : World}, Off O1 Wb W3 → Off (· = L) W3 W4 → Off O W W4 := fun h3 h4 =>
        ((hbusy.mono (fun k e => by rw [e]; exact (hh.eqO L).2 (.inr (.inl rfl)))).trans (h3.mono fun k e => (hh.eqO k).2 (.inl e))).trans (h4.mono (fun k e => by rw [e]; exact (hh.eqO L).2 (.inr (.inl rfl))))
      have hgrow : ∀ {O' : Nat → Prop}, (∀ k, O' k → O1 k ∨ Wb.heap.size ≤ k) → ¬ O' L ∧ ¬ O' D ∧ ∀ k, (O' k ∨ k = L ∨ k = D) → O k ∨ W.heap.size ≤ k := fun hO' =>
        ⟨fun e => (hO' L e).elim hh.nL (fun e => by omega), fun e => (hO' D e).elim hh.nD (fun e => by have := (Array.getElem?_eq_some_iff.1 hh.df).1; omega), fun k e => by
          rcases e with e | e
          · exact (hO' k e).imp (fun e => (hh.eqO k).2 (.inl e)) (fun e => by omega)
          · exact .inl ((hh.eqO k).2 (.inr e))⟩
      have stop : ∀ (c : Code) (W3 : World) (O' : Nat → Prop), al y.1 = false → Ix c W3 O' y.1 → Off O1 Wb W3 → (∀ k, O' k → O1 k ∨ Wb.heap.size ≤ k) → ∃ v w', (Instr.endRound L (some c)).run Try.prog W3 = .ok v w' ∧ VsPost (fun w O x => ∃ O1, LpAt al Iv Ix rec L D w O x O1) W O y (.returned v) w' := fun c W3 O' hf hix ho3 hO' => by
        obtain ⟨e1, e2, e3, e4⟩ := fin (some c) W3 ho3
        obtain ⟨n1, n2, n3⟩ := hgrow hO'
        refine ⟨_, _, e1, fun k => O' k ∨ k = L ∨ k = D, by rw [hal2, hf]; rfl, ⟨O', fun k => Iff.rfl, n1, n2, e3, (fun e => by rw [hf] at e; cases e), fun _ => ⟨c, ixOff hix e4 (fun k e e2 => n1 (by rw [← e]; exact e2)), e2⟩⟩, hoff ho3 e4, n3⟩
      rintro e a3 W3 hp
      cases e with
      | normal =>
        obtain ⟨hf, O', hix, ho3, hO'⟩ := hp
        obtain ⟨e1, e2, e3, e4⟩ := fin none W3 ho3
        obtain ⟨n1, n2, n3⟩ := hgrow hO'
        exact ⟨_, _, e1, fun k => O' k ∨ k = L ∨ k = D, by rw [hal2, hf]; rfl, ⟨O', fun k => Iff.rfl, n1, n2, e3, fun _ => ⟨ivOff hix e4 (fun k e e2 => n1 (by rw [← e]; exact e2)), e2⟩, (fun e => by rw [hf] at e; cases e)⟩, hoff ho3 e4, n3⟩
      | ret => obtain ⟨hf, O', hix, ho3, hO'⟩ := hp; exact stop .ret W3 O' hf hix ho3 hO'
      | exit id => obtain ⟨hf, O', hix, ho3, hO'⟩ := hp; exact stop (.exit id) W3 O' hf hix ho3 hO'
      | goto t => obtain ⟨hf, O', hix, ho3, hO'⟩ := hp; exact stop (.goto t) W3 O' hf hix ho3 hO'
      | panic ch => exact hp.elim
      | outgrown => exact hp.elim }
  refine ⟨L, [{ target := .collected w.heap.size, args := #[] }], W1, { target := .fn (.func 43) #[.pointer (some ⟨B2, 0, none⟩), .pointer (some ⟨B3, 0, none⟩)], args := #[.func (.yield L) #[] #[]] }, W1, 43,
    #[.func (.yield L) #[] #[]] ++ #[.pointer (some ⟨B2, 0, none⟩), .pointer (some ⟨B3, 0, none⟩)], W1, ?_, ?_, ?_, ?_, fun _ => by omega, ?_⟩
  · rw [← hW1, hrec, ← hL]; exact run_enterLoop_outer _ _ _ _ _
  · simp only [resolve, hg]
    simp [go_sem]
  · intro f' hf'; trivial
  · have eg := ent_fn (P := Try.prog) Try.func43 (by kernel_rfl) rfl
    simp [invoke, go_sem, eg]
  · have hivY : Y.Iv W1 (fun k => Ov k ∨ k = L ∨ k = D) x0 := ⟨Ov, fun k => Iff.rfl, fun e => by have := hVlt _ e; omega, fun e => by have := hVlt _ e; omega, by rw [← hD]; exact hK1, fun _ => ⟨ivOff hi (Off.of_below (S := fun _ => False) hb1) (fun _ => False.elim), by rw [← hL]; exact hL1⟩, fun e => by rw [hx0] at e; cases e⟩
    have l2 := lt_of_cell c2
    have l3 := c3.lt
    have hsq := all1_any (M := M) hK Y (w := W1) (h.up hb1) hivY hr hx0 (fun k hk e => by
      have := hOlt k hk
      rcases e with e | e | e
      · exact d1 k hk e
      · omega
      · omega) (fun e => by
      rcases e with e | e | e
      · exact d2 e
      · omega
      · omega) ((hb1.cell (p := ⟨B2, 0, none⟩) l2).trans c2) ((hb1.cell (p := ⟨B3, 0, none⟩) l3).trans c3.1) ((hb1.cell (p := ⟨B3, 1, none⟩) l3).trans c3.2.1)
    refine (callsIn_wide.2 hsq).mono ?_
    rintro e W2 ⟨Ov', ⟨v, rfl⟩, htr, ⟨O1, hh⟩, hof, hO'⟩
    have hofw : Off (fun k => O k ∨ Ov k) w W2 := ((Off.of_below hb1).mono (fun _ => False.elim)).late hof fun i hl hi => by
      rcases hi with e | e | e | e
      · exact .inl e
      · exact .inr e
      · omega
      · omega
    have hO1 : ∀ k, O1 k → Ov k ∨ w.heap.size ≤ k := fun k e => by
      have := hb1.size
      rcases hO' k ((hh.eqO k).2 (.inl e)) with (e2 | e2 | e2) | e2
      · exact .inl e2
      · exact .inr (by omega)
      · exact .inr (by omega)
      · exact .inr (by omega)
    have hLD : L ≠ D := by omega
    have endL : ∀ (st : LoopState) (pe : Option Code), W2.heap[L]? = some (.loop (rec st pe)) → st ≠ .busy → ∃ W3, (Instr.endLoop L).run Try.prog W2 = .ok pe W3 ∧ Off (· = L) W2 W3 := fun st pe hl hst => by
      have := run_endLoop (P := Try.prog) hl (by rw [hrec]; exact hst)
      rw [hrec] at this
      exact ⟨_, this, off_putObj W2 _⟩
    obtain ⟨y, hy⟩ : ∃ y, y = walkF K (pairsC f) 7 (s, 1048576, x0) r 0 0 := ⟨_, rfl⟩
    rw [← hy] at htr hh
    cases hx : al y.1.2.2 with
    | true =>
      obtain ⟨i1, i2⟩ := hh.yes hx
      obtain ⟨W3, e1, e2⟩ := endL _ _ i2 (by simp)
      refine ⟨none, W3, e1, ?_⟩
      rw [hD]
      have hOL : ¬ O L := fun e => by have := hOlt _ e; omega
      exact (hend D W3 O1 y hy (by omega) (heap_off hh.df e2 (fun e => hLD e.symm)) (htr.off e2 (fun k e e3 => hOL (by rw [← e]; exact e3)) (by omega)) (hofw.late e2 fun i hl e => by omega) hO1).1 hx (ivOff i1 e2 (fun k e e3 => hh.nL (by rw [← e]; exact e3)))
    | false =>
      obtain ⟨c, i1, i2⟩ := hh.no hx
      obtain ⟨W3, e1, e2⟩ := endL _ _ i2 (by simp)
      refine ⟨some c, W3, e1, ?_⟩
      rw [hD]
      have hOL : ¬ O L := fun e => by have := hOlt _ e; omega
      exact (hend D W3 O1 y hy (by omega) (heap_off hh.df e2 (fun e => hLD e.symm)) (htr.off e2 (fun k e e3 => hOL (by rw [← e]; exact e3)) (by omega)) (hofw.late e2 fun i hl e => by omega) hO1).2 hx c (ixOff i1 e2 (fun k e e3 => hh.nL (by rw [← e]; exact e3)))
end Go.Proofs.Ytgkdggidgaifhaa
namespace Go.Proofs.Ytgkdggidgaifhaa
open Go.RowKit
set_option linter.unusedVariables false
set_option linter.unusedSimpArgs false

/-- A round has answered; what it was handed may be its own now. -/
def VsG {α : Type} (Iv : World → (Nat → Prop) → α → Prop) (own : Nat → Prop) (w : World) (O : Nat → Prop) (y : α × Bool) (e : Ending) (w' : World) : Prop :=
  ∃ O' : Nat → Prop, e = .returned (.bool y.2) ∧ Iv w' O' y.1 ∧ Off O w w' ∧ ∀ k, O' k → O k ∨ own k ∨ w.heap.size ≤ k
/-- How a round's body may be left. -/
def bdPostG {α : Type} (al : α → Bool) (Iv : World → (Nat → Prop) → α → Prop) (Ix : Code → World → (Nat → Prop) → α → Prop) (OW OG : Nat → Prop) (W : World) (y : α) : Exit → Act → World → Prop
  | .normal, _, W' => al y = true ∧ ∃ O' : Nat → Prop, Iv W' O' y ∧ Off OW W W' ∧ ∀ k, O' k → OG k
  | .ret, _, W' => al y = false ∧ ∃ O' : Nat → Prop, Ix .ret W' O' y ∧ Off OW W W' ∧ ∀ k, O' k → OG k
  | .exit id, _, W' => al y = false ∧ ∃ O' : Nat → Prop, Ix (.exit id) W' O' y ∧ Off OW W W' ∧ ∀ k, O' k → OG k
  | .goto t, _, W' => al y = false ∧ ∃ O' : Nat → Prop, Ix (.goto t) W' O' y ∧ Off OW W W' ∧ ∀ k, O' k → OG k
  | .panic _, _, _ => False
  | .outgrown, _, _ => False
/-- What is ranged over any sequence: a loop's rounds, its own state, its own blocks. -/
structure YldG {α ε : Type} (f : α → ε → α × Bool) (arg : World → (Nat → Prop) → ε → Array Value → Prop) (own : Array Value → Nat → Prop) where
  l : Nat
  Iv : World → (Nat → Prop) → α → Prop
  Rdy : α → Nat → Prop
  mono : ∀ a n m, Rdy a n → m ≤ n → Rdy a m
  step : ∀ a e n, Rdy a (n + 1) → (f a e).2 = true → Rdy (f a e).1 n
  off : ∀ {S O : Nat → Prop} {w w' : World} {a : α}, Iv w O a → Off S w w' → (∀ k, S k → ¬ O k) → Iv w' O a
  lt : ∀ {O : Nat → Prop} {w : World} {a : α} {k : Nat}, Iv w O a → O k → k < w.heap.size
  call : ∀ {w : World} {O : Nat → Prop} {a : α} {e : ε} {vs : Array Value}, Iv w O a → Rdy a 1 → arg w O e vs → YieldAt Fence.wide 8 Try.prog l vs w (VsG Iv (own vs) w O (f a e))
set_option maxHeartbeats 4000000 in
theorem range_gen {α ε : Type} {F : FuncId} {lb : Array Value} {g : Operand} {ps : Array Tmp} {assign body : Code} {Q : Exit → Act → World → Prop} {a : Act} {w : World} {OS Ov : Nat → Prop}
    (hg : a.eval g = .func (.func F) #[] lb) (ent : ∀ (args : Array Value) (w : World), (callFunc F args).run Try.prog w = .ok (.enter F args) w)
    (f : α → ε → α × Bool) (al : α → Bool) (arg : World → (Nat → Prop) → ε → Array Value → Prop) (own : Array Value → Nat → Prop) (hal : ∀ x e, al x = true → (f x e).2 = al (f x e).1)
    (Rdy : α → Nat → Prop) (rdyM : ∀ a n m, Rdy a n → m ≤ n → Rdy a m) (rdyS : ∀ a e n, Rdy a (n + 1) → Rdy (f a e).1 n)
    (hlen : ∀ {w : World} {O : Nat → Prop} {e : ε} {vs : Array Value}, arg w O e vs → vs.size = ps.size)
    (argOwn : ∀ {w : World} {O : Nat → Prop} {e : ε} {vs : Array Value} {k : Nat}, arg w O e vs → own vs k → ¬ O k)
    (argOff : ∀ {S O O1 : Nat → Prop} {w w' : World} {e : ε} {vs : Array Value}, arg w O e vs → Off S w w' → (∀ k, S k → O k) → (∀ k, O1 k → O k) → arg w' O1 e vs)
    (Iv : World → (Nat → Prop) → α → Prop) (Ix : Code → World → (Nat → Prop) → α → Prop)
    (ivOff : ∀ {S O : Nat → Prop} {w w' : World} {x : α}, Iv w O x → Off S w w' → (∀ k, S k → ¬ O k) → Iv w' O x) (ivLt : ∀ {O : Nat → Prop} {w : World} {x : α} {k : Nat}, Iv w O x → O k → k < w.heap.size)
    (ixOff : ∀ {c : Code} {S O : Nat → Prop} {w w' : World} {x : α}, Ix c w O x → Off S w w' → (∀ k, S k → ¬ O k) → Ix c w' O x) (ixLt : ∀ {c : Code} {O : Nat → Prop} {w : World} {x : α} {k : Nat}, Ix c w O x → O k → k < w.heap.size)
    (x0 : α) (N : Nat) (hN : Rdy x0 N) (hx0 : al x0 = true) (hi : Iv w Ov x0) (hOS : ∀ k, OS k → k < w.heap.size)
    (Rs : α → World → Prop) (rsOff : ∀ {y : α} {W W' : World}, Rs y W → w.heap.size ≤ W.heap.size → Off (· = w.heap.size + 1) W W' → Rs y W')
    (hround : ∀ (l : Nat) (x : α) (e : ε) (vs : Array Value) (W : World) (O1 : Nat → Prop), (∀ k, O1 k → k < W.heap.size) → l < W.heap.size → ¬ O1 l → al x = true → Rdy x 1 → arg W O1 e vs →
      assign.wpIn (Fence.wide.inRound l) 8 Try.prog (Exit.then (fun a1 W1 => Below W.heap.size W W1 ∧ ∀ W2, Off (· = l) W1 W2 → Iv W2 O1 x → arg W2 O1 e vs →
        body.wpIn (Fence.wide.inRound l) 8 Try.prog (bdPostG al Iv Ix (fun k => O1 k ∨ W.heap.size ≤ k) (fun k => O1 k ∨ own vs k ∨ W.heap.size ≤ k) W2 (f x e).1) a1 W2) (fun _ _ _ => False)) { tmps := (ps.zip vs).foldl (fun t (p, v) => t.setIfInBounds p v) a.tmps, defers := [] } W)
    (hseq : ∀ (Y : YldG f arg own) (W1 : World) (O1 : Nat → Prop), Below w.heap.size w W1 → Y.Iv W1 O1 x0 → Y.Rdy x0 N → (∀ k, O1 k → Ov k ∨ w.heap.size ≤ k) →
      Calls Try.prog F (#[.func (.yield Y.l) #[] #[]] ++ lb) W1 fun e W2 => ∃ (y : α) (O2 : Nat → Prop), (∃ v, e = .returned v) ∧ Y.Iv W2 O2 y ∧ Rs y W2 ∧ Off (fun k => OS k ∨ O1 k) W1 W2 ∧ ∀ k, O2 k → O1 k ∨ W1.heap.size ≤ k)
    (hend : ∀ (D : Nat) (W : World) (O1 : Nat → Prop) (y : α), w.heap.size ≤ D → W.heap[D]? = some (.deferred (some [])) → Rs y W → Off (fun k => OS k ∨ Ov k) w W → (∀ k, O1 k → Ov k ∨ w.heap.size ≤ k) → ¬ O1 D →
      (al y = true → Iv W O1 y → Q .normal { a with defers := { target := .collected D, args := #[] } :: a.defers } W) ∧
      (al y = false → ∀ c, Ix c W O1 y → c.wpIn Fence.wide 9 Try.prog Q { a with defers := { target := .collected D, args := #[] } :: a.defers } W)) :
    (Code.rangeFunc g ps assign body).wpIn Fence.wide 9 Try.prog Q a w := by
  refine wpIn_rangeFunc ?_
  intro fn hfn
  obtain ⟨rec, hrec⟩ : ∃ rec : LoopState → Option Code → Loop, rec = fun st pe => { state := st, pending := pe, fn, tmps := a.tmps, params := ps, assign, body, defers := w.heap.size } := ⟨_, rfl⟩
  obtain ⟨W1, hW1⟩ : ∃ W1, (w.alloc (.deferred (some []))).alloc (.loop (rec .ready none)) = W1 := ⟨_, rfl⟩
  have hL1 : W1.heap[w.heap.size + 1]? = some (.loop (rec .ready none)) := by
    rw [← hW1]; have := World.alloc_heap_new (w.alloc (.deferred (some []))) (.loop (rec .ready none)); rwa [World.size_alloc] at this
  have hK1 : W1.heap[w.heap.size]? = some (.deferred (some [])) := by
    rw [← hW1]; exact (Below.heap_alloc _ _ _ (by simp)).trans (World.alloc_heap_new w _)
  have hb1 : Below w.heap.size w W1 := by
    rw [← hW1]; exact ((Below.refl _ w).alloc (Nat.le_refl _) _).alloc (by simp) _
  obtain ⟨L, hL⟩ : ∃ L, w.heap.size + 1 = L := ⟨_, rfl⟩
  obtain ⟨D, hD⟩ : ∃ D, w.heap.size = D := ⟨_, rfl⟩
  have hVlt : ∀ k, Ov k → k < w.heap.size := fun k hk => ivLt hi hk
  have hLD : L ≠ D := by omega
  let Y : YldG f arg own := {
    l := L
    Iv := fun w O x => ∃ O1, LpAt al Iv Ix rec L D w O x O1
    Rdy := fun x n => al x = true ∧ Rdy x n
    mono := fun x n m h hm => ⟨h.1, rdyM _ _ _ h.2 hm⟩
    step := fun x e n h h2 => ⟨(hal x e h.1).symm.trans h2, rdyS _ _ _ h.2⟩
    off := fun {S O w w' x} h ho hs => by
      obtain ⟨O1, k⟩ := h
      have hs1 : ∀ k', S k' → ¬ O1 k' := fun k' e e2 => hs k' e ((k.eqO k').2 (.inl e2))
      exact ⟨O1, k.eqO, k.nL, k.nD, heap_off k.df ho (fun e => hs D e ((k.eqO D).2 (.inr (.inr rfl)))), fun e => ⟨ivOff (k.yes e).1 ho hs1, heap_off (k.yes e).2 ho (fun e => hs L e ((k.eqO L).2 (.inr (.inl rfl))))⟩, fun e => by
        obtain ⟨c, i1, i2⟩ := k.no e
        exact ⟨c, ixOff i1 ho hs1, heap_off i2 ho (fun e => hs L e ((k.eqO L).2 (.inr (.inl rfl))))⟩⟩
    lt := fun {O w x k} h hk => by
      obtain ⟨O1, hh⟩ := h
      rcases (hh.eqO k).1 hk with e | e | e
      · cases hx : al x with
        | true => exact ivLt (hh.yes hx).1 e
        | false => obtain ⟨c, i1, _⟩ := hh.no hx; exact ixLt i1 e
      · rw [e]
        cases hx : al x with
        | true => exact (Array.getElem?_eq_some_iff.1 (hh.yes hx).2).1
        | false => obtain ⟨c, _, i2⟩ := hh.no hx; exact (Array.getElem?_eq_some_iff.1 i2).1
      · rw [e]; exact (Array.getElem?_eq_some_iff.1 hh.df).1
    call := fun {W O x ev vs} h hxr hv => by
      obtain ⟨hx, hr1⟩ := hxr
      obtain ⟨O1, hh⟩ := h
      obtain ⟨hiv, hl⟩ := hh.yes hx
      have hy := run_yield (P := Try.prog) (args := vs) hl (by rw [hrec]; exact hlen hv)
      rw [hrec] at hy
      have hltL : L < W.heap.size := (Array.getElem?_eq_some_iff.1 hl).1
      have hltD : D < W.heap.size := (Array.getElem?_eq_some_iff.1 hh.df).1
      have hO1lt : ∀ k, O1 k → k < W.heap.size := fun k e => ivLt hiv e
      refine ⟨fn, _, assign, body, hy, roundIn_of_wpIn hfn (wpIn_mono (hround L x ev vs W O1 hO1lt hltL hh.nL hx hr1 (argOff (S := fun _ => False) hv (Off.refl _ _) (fun _ => False.elim) (fun k e => (hh.eqO k).2 (.inl e)))) ?_)⟩
      clear hy
      rintro ex a1 V1 hA
      cases ex with
      | exit id => exact hA.elim
      | goto t => exact hA.elim
      | ret => exact hA.elim
      | panic ch => exact hA.elim
      | outgrown => exact hA.elim
      | normal =>
      obtain ⟨hbA, hA⟩ := hA
      have hl1 : V1.heap[L]? = some (.loop (rec .ready none)) := heap_off hl (S := fun _ => False) (Off.of_below hbA) id
      have hd1 : V1.heap[D]? = some (.deferred (some [])) := heap_off hh.df (S := fun _ => False) (Off.of_below hbA) id
      have hsA := hbA.size
      refine ⟨_, run_beginRound hl1 (by rw [hrec]), ?_⟩
      have hlt : L < V1.heap.size := by omega
      have hbusy := off_putObj V1 (l := L) (.loop { rec .ready none with state := .busy })
      have hl2 : (V1.putObj L (.loop { rec .ready none with state := .busy })).heap[L]? = some (.loop { rec .ready none with state := .busy }) := World.putObj_heap_same hlt
      have hoffA : Off (fun k => O k) W (V1.putObj L (.loop { rec .ready none with state := .busy })) := ((Off.of_below hbA).mono (S' := fun k => O k) (fun _ => False.elim)).trans (hbusy.mono fun k e => by rw [e]; exact (hh.eqO L).2 (.inr (.inl rfl)))
      have hb2 := hA _ hbusy (ivOff (ivOff hiv (Off.of_below (S := fun _ => False) hbA) (fun _ => False.elim)) hbusy (fun k e e2 => hh.nL (by rw [← e]; exact e2))) (argOff hv hoffA (fun k e => e) (fun k e => (hh.eqO k).2 (.inl e)))
      have hd2 : (V1.putObj L (.loop { rec .ready none with state := .busy })).heap[D]? = some (.deferred (some [])) := heap_off hd1 hbusy (fun e => hLD e.symm)
      have hsz2 : (V1.putObj L (.loop { rec .ready none with state := .busy })).heap.size = V1.heap.size := by simp
      have hoffW : Off (· = L) W (V1.putObj L (.loop { rec .ready none with state := .busy })) := ((Off.of_below hbA).mono (S' := (· = L)) (fun _ => False.elim)).trans hbusy
      generalize V1.putObj L (.loop { rec .ready none with state := .busy }) = Wb at *
      refine wpIn_mono hb2 ?_
      have hal2 := hal x ev hx
      generalize f x ev = y at *
      have fin : ∀ (jump : Option Code) (W3 : World), Off (fun k => O1 k ∨ W.heap.size ≤ k) Wb W3 →
          (Instr.endRound L jump).run Try.prog W3 = .ok (.bool jump.isNone) (W3.putObj L (.loop (rec (if jump.isNone then .ready else .done) jump))) ∧
          (W3.putObj L (.loop (rec (if jump.isNone then .ready else .done) jump))).heap[L]? = some (.loop (rec (if jump.isNone then .ready else .done) jump)) ∧
          (W3.putObj L (.loop (rec (if jump.isNone then .ready else .done) jump))).heap[D]? = some (.deferred (some [])) ∧ Off (· = L) W3 (W3.putObj L (.loop (rec (if jump.isNone then .ready else .done) jump))) := fun jump W3 ho3 => by
        have hl3 := heap_off hl2 ho3 (fun e => e.elim hh.nL (fun e => by omega))
        have := run_endRound (P := Try.prog) jump hl3
        rw [hrec] at this ⊢
        exact ⟨this, World.putObj_heap_same (Array.getElem?_eq_some_iff.1 hl3).1, heap_off (heap_off hd2 ho3 (fun e => e.elim hh.nD (fun e => by omega))) (off_putObj W3 _) (fun e => hLD e.symm), off_putObj W3 _⟩
      have hoff : ∀ {W3 W4 : World}, Off (fun k => O1 k ∨ W.heap.size ≤ k) Wb W3 → Off (· = L) W3 W4 → Off O W W4 := fun h3 h4 => by
        have e1 : Off O W Wb := hoffW.mono (fun k e => by rw [e]; exact (hh.eqO L).2 (.inr (.inl rfl)))
        refine (e1.late h3 fun i hl hi => hi.elim (fun e => (hh.eqO i).2 (.inl e)) (fun e => by omega)).trans (h4.mono (fun k e => by rw [e]; exact (hh.eqO L).2 (.inr (.inl rfl))))
      have hgrow : ∀ {O' : Nat → Prop}, (∀ k, O' k → O1 k ∨ own vs k ∨ W.heap.size ≤ k) → ¬ O' L ∧ ¬ O' D ∧ ∀ k, (O' k ∨ k = L ∨ k = D) → O k ∨ own vs k ∨ W.heap.size ≤ k := fun hO' =>
        ⟨fun e => (hO' L e).elim hh.nL (fun e => e.elim (fun e => argOwn hv e ((hh.eqO L).2 (.inr (.inl rfl)))) (fun e => by omega)), fun e => (hO' D e).elim hh.nD (fun e => e.elim (fun e => argOwn hv e ((hh.eqO D).2 (.inr (.inr rfl)))) (fun e => by omega)), fun k e => by
          rcases e with e | e
          · exact (hO' k e).imp (fun e => (hh.eqO k).2 (.inl e)) id
          · exact .inl ((hh.eqO k).2 (.inr e))⟩
      have stop : ∀ (c : Code) (W3 : World) (O' : Nat → Prop), al y.1 = false → Ix c W3 O' y.1 → Off (fun k => O1 k ∨ W.heap.size ≤ k) Wb W3 → (∀ k, O' k → O1 k ∨ own vs k ∨ W.heap.size ≤ k) → ∃ v w', (Instr.endRound L (some c)).run Try.prog W3 = .ok v w' ∧ VsG (fun w O x => ∃ O1, LpAt al Iv Ix rec L D w O x O1) (own vs) W O y (.returned v) w' := fun c W3 O' hf hix ho3 hO' => by
        obtain ⟨e1, e2, e3, e4⟩ := fin (some c) W3 ho3
        obtain ⟨n1, n2, n3⟩ := hgrow hO'
        refine ⟨_, _, e1, fun k => O' k ∨ k = L ∨ k = D, by rw [hal2, hf]; rfl, ⟨O', fun k => Iff.rfl, n1, n2, e3, (fun e => by rw [hf] at e; cases e), fun _ => ⟨c, ixOff hix e4 (fun k e e2 => n1 (by rw [← e]; exact e2)), e2⟩⟩, hoff ho3 e4, n3⟩
      rintro e a3 W3 hp
      cases e with
      | normal =>
        obtain ⟨hf, O', hix, ho3, hO'⟩ := hp
        obtain ⟨e1, e2, e3, e4⟩ := fin none W3 ho3
        obtain ⟨n1, n2, n3⟩ := hgrow hO'
        exact ⟨_, _, e1, fun k => O' k ∨ k = L ∨ k = D, by rw [hal2, hf]; rfl, ⟨O', fun k => Iff.rfl, n1, n2, e3, fun _ => ⟨ivOff hix e4 (fun k e e2 => n1 (by rw [← e]; exact e2)), e2⟩, (fun e => by rw [hf] at e; cases e)⟩, hoff ho3 e4, n3⟩
      | ret => obtain ⟨hf, O', hix, ho3, hO'⟩ := hp; exact stop .ret W3 O' hf hix ho3 hO'
      | exit id => obtain ⟨hf, O', hix, ho3, hO'⟩ := hp; exact stop (.exit id) W3 O' hf hix ho3 hO'
      | goto t => obtain ⟨hf, O', hix, ho3, hO'⟩ := hp; exact stop (.goto t) W3 O' hf hix ho3 hO'
      | panic ch => exact hp.elim
      | outgrown => exact hp.elim }
  refine ⟨L, [{ target := .collected w.heap.size, args := #[] }], W1, { target := .fn (.func F) lb, args := #[.func (.yield L) #[] #[]] }, W1, F,
    #[.func (.yield L) #[] #[]] ++ lb, W1, ?_, ?_, ?_, ?_, fun _ => by omega, ?_⟩
  · rw [← hW1, hrec, ← hL]; exact run_enterLoop_outer _ _ _ _ _
  · simp only [resolve, hg]
    simp [go_sem]
  · intro f' hf'; trivial
  · simp [invoke, go_sem, ent]
  · have hivY : Y.Iv W1 (fun k => Ov k ∨ k = L ∨ k = D) x0 := ⟨Ov, fun k => Iff.rfl, fun e => by have := hVlt _ e; omega, fun e => by have := hVlt _ e; omega, by rw [← hD]; exact hK1, fun _ => ⟨ivOff hi (Off.of_below (S := fun _ => False) hb1) (fun _ => False.elim), by rw [← hL]; exact hL1⟩, fun e => by rw [hx0] at e; cases e⟩
    have hsq := hseq Y W1 _ hb1 hivY ⟨hx0, hN⟩ (fun k e => by
      rcases e with e | e | e
      · exact .inl e
      · exact .inr (by omega)
      · exact .inr (by omega))
    refine (callsIn_wide.2 hsq).mono ?_
    rintro e W2 ⟨y, Ov', ⟨v, rfl⟩, ⟨O1, hh⟩, hrs, hof, hO'⟩
    have hofw : Off (fun k => OS k ∨ Ov k) w W2 := ((Off.of_below hb1).mono (fun _ => False.elim)).late hof fun i hl hi => by
      rcases hi with e | e | e | e
      · exact .inl e
      · exact .inr e
      · omega
      · omega
    have hO1 : ∀ k, O1 k → Ov k ∨ w.heap.size ≤ k := fun k e => by
      have := hb1.size
      rcases hO' k ((hh.eqO k).2 (.inl e)) with (e2 | e2 | e2) | e2
      · exact .inl e2
      · exact .inr (by omega)
      · exact .inr (by omega)
      · exact .inr (by omega)
    have hs2 := hofw.size
    have endL : ∀ (st : LoopState) (pe : Option Code), W2.heap[L]? = some (.loop (rec st pe)) → st ≠ .busy → ∃ W3, (Instr.endLoop L).run Try.prog W2 = .ok pe W3 ∧ Off (· = L) W2 W3 := fun st pe hl hst => by
      have := run_endLoop (P := Try.prog) hl (by rw [hrec]; exact hst)
      rw [hrec] at this
      exact ⟨_, this, off_putObj W2 _⟩
    cases hx : al y with
    | true =>
      obtain ⟨i1, i2⟩ := hh.yes hx
      obtain ⟨W3, e1, e2⟩ := endL _ _ i2 (by simp)
      refine ⟨none, W3, e1, ?_⟩
      rw [hD]
      exact (hend D W3 O1 y (by omega) (heap_off hh.df e2 (fun e => hLD e.symm)) (rsOff hrs hs2 (e2.mono fun k e => e.trans hL.symm)) (hofw.late e2 fun i hl e => by omega) hO1 hh.nD).1 hx (ivOff i1 e2 (fun k e e3 => hh.nL (by rw [← e]; exact e3)))
    | false =>
      obtain ⟨c, i1, i2⟩ := hh.no hx
      obtain ⟨W3, e1, e2⟩ := endL _ _ i2 (by simp)
      refine ⟨some c, W3, e1, ?_⟩
      rw [hD]
      exact (hend D W3 O1 y (by omega) (heap_off hh.df e2 (fun e => hLD e.symm)) (rsOff hrs hs2 (e2.mono fun k e => e.trans hL.symm)) (hofw.late e2 fun i hl e => by omega) hO1 hh.nD).2 hx c (ixOff i1 e2 (fun k e e3 => hh.nL (by rw [← e]; exact e3)))
end Go.Proofs.Ytgkdggidgaifhaa
namespace Go.Proofs.Ytgkdggidgaifhaa
open Go.RowKit
set_option linter.unusedVariables false
set_option linter.unusedSimpArgs false

set_option maxRecDepth 100000 in
set_option maxHeartbeats 1000000 in
theorem bclone_any (w : World) (A : Option Addr) (n c : Nat) (L : Bytes) (hL : SBy w A n L) (hn : n ≤ 2 ^ 40) :
    Calls Try.prog 64 #[.slice A n c] w fun e w' => ∃ A' c', e = .returned (.slice A' n c') ∧ FrB w w' (.slice A' n c') L ∧ (0 < n → ∃ b, A' = some ⟨b, 0, none⟩) := by
  have heq := fun (w : World) (a : Option Addr) (n c : Nat) => Lib.run_eql_slice_nil (P := Try.prog) w 38 5 a n c 0 0 Try.underlying38
  have HL := Lib.hid hL
  cases A with
  | none =>
    obtain rfl : n = 0 := by
      rcases Nat.eq_zero_or_pos n with h | h
      · exact h
      · obtain ⟨b, o, h, _⟩ := hL.2 h
        cases h
    have : L = [] := by simpa using hL.1
    subst this
    clear hL HL
    go_enter Try.func64, Try.ntmps64
    go_wp2
    go_ret
    exact ⟨_, _, rfl, FrB.empty w, fun h => by omega⟩
  | some a =>
    clear hL
    go_enter Try.func64, Try.ntmps64
    go_wp2_with (at_builtin; go_must (refine wpList_appF rfl (.tmp 5) (.tmp 6) rfl w (.slice (some ⟨w.heap.size, 0, none⟩) 0 0) [] L rfl (FrB.lit w) (some a) n c rfl (HL.out.alloc _) (by simp; omega) n (by simp) ?_); intro A' c' w1 h1 hg)
    have H1 := Lib.hid h1
    clear h1 hg
    go_wp2
    go_ret
    refine ⟨_, _, rfl, by simpa using H1.out, fun h => ?_⟩
    obtain ⟨g, cap, hv, _⟩ := World.ownsRow.form H1.out.own (by simpa [HL.out.1] using h)
    cases hv
    exact ⟨_, rfl⟩

/-- The block of a slice that has something. -/
def vblk (v : Value) (k : Nat) : Prop := ∃ o n c, v = .slice (some ⟨k, o, none⟩) n c ∧ 0 < n
theorem VIn.blk {Vb : Nat → Prop} {v : Value} (h : VIn Vb v) {k : Nat} (hk : vblk v k) : Vb k := by
  obtain ⟨o, n, c, e, hn⟩ := hk
  exact h k o n c e hn
theorem VIn.of_blk {Vb : Nat → Prop} {v : Value} (h : ∀ k, vblk v k → Vb k) : VIn Vb v := fun b o n c e hn => h b ⟨o, n, c, e, hn⟩
/-- What delta's sequence of pairs hands over. -/
def argP (w : World) (O : Nat → Prop) (e : Nat × Bytes) (vs : Array Value) : Prop := ∃ v, vs = #[.agg #[.int .i64 (e.1 : Nat), v, .int .i64 0]] ∧ e.1 < 16777216 ∧ SlB w v e.2 ∧ e.2.length ≤ 256 ∧ VIn (fun b => ¬ O b) v
def ownP (vs : Array Value) (k : Nat) : Prop := ∃ x v y, vs = #[.agg #[x, v, y]] ∧ vblk v k
theorem argP_own {w : World} {O : Nat → Prop} {e : Nat × Bytes} {vs : Array Value} {k : Nat} (h : argP w O e vs) (hk : ownP vs k) : ¬ O k := by
  obtain ⟨v, rfl, _, _, _, hv⟩ := h
  obtain ⟨x, v', y, e, hk⟩ := hk
  simp only [Array.mk.injEq, List.cons.injEq, Value.agg.injEq] at e
  obtain ⟨⟨_, rfl, _⟩, _⟩ := e
  exact hv.blk hk
theorem argP_off {S O O1 : Nat → Prop} {w w' : World} {e : Nat × Bytes} {vs : Array Value} (h : argP w O e vs) (ho : Off S w w') (hs : ∀ k, S k → O k) (h1 : ∀ k, O1 k → O k) : argP w' O1 e vs := by
  obtain ⟨v, rfl, hk, hv, hl, ha⟩ := h
  exact ⟨v, rfl, hk, hv.offP ho (ha.mono fun b hb e => hb (hs b e)), hl, ha.mono fun b hb e => hb (h1 b e)⟩
section
variable {α : Type} {f : α → Nat × Bytes → α × Bool}
set_option maxRecDepth 100000 in
set_option maxHeartbeats 4000000 in
theorem dpairs11_any (Y : YldG f argP ownP) {w : World} {B M : Nat} {O : Nat → Prop} {a : α} {key : Nat} {v : Value} {L : Bytes} {m0 : Bool} (hi : Y.Iv w O a) (hB : w.cell? ⟨B, 0, none⟩ = some (.func (.yield Y.l) #[] #[])) (hM : w.cell? ⟨M, 0, none⟩ = some (.bool m0)) (fM : w.frozen? ⟨M, 0, none⟩ = false) (hMO : ¬ O M) (hBO : ¬ O B) (hBM : B ≠ M) (hr : Y.Rdy a 1) (hk : key < 16777216) (hv : SlB w v L) (hL : L.length ≤ 256) :
    Calls Try.prog 63 #[.int .i64 (key : Nat), v, .pointer (some ⟨B, 0, none⟩), .pointer (some ⟨M, 0, none⟩)] w fun e w' => ∃ O' : Nat → Prop, e = .returned (.bool (f a (key, L)).2) ∧ Y.Iv w' O' (f a (key, L)).1 ∧ (w'.cell? ⟨M, 0, none⟩ = some (.bool (f a (key, L)).2) ∧ w'.frozen? ⟨M, 0, none⟩ = false) ∧ Off (fun k => O k ∨ k = M) w w' ∧ (∀ k, O' k → O k ∨ w.heap.size ≤ k) := by
  obtain ⟨A, n, c, rfl, hnc, hs⟩ := hv
  have hn := hs.1
  have HC : Hid (∀ w', Below w.heap.size w w' → CallsIn Fence.wide 8 Try.prog 64 #[.slice A n c] w' fun e w2 => ∃ A' c', e = .returned (.slice A' n c') ∧ FrB w' w2 (.slice A' n c') L) := Lib.hid fun w' hb => callsIn_wide.2 ((bclone_any w' A n c L (hs.up hb) (by omega)).mono fun e w2 ⟨A', c', he, hf, _⟩ => ⟨A', c', he, hf⟩)
  have HY : Hid (∀ (w' : World) (A' : Option Addr) (c' : Nat), Below w.heap.size w w' → SlB w' (.slice A' n c') L → VIn (fun b => w.heap.size ≤ b) (.slice A' n c') → YieldAt Fence.wide 8 Try.prog Y.l #[.agg #[.int .i64 (key : Nat), .slice A' n c', .int .i64 0]] w' (VsPost Y.Iv w O (f a (key, L)))) := Lib.hid fun w' A' c' hb hs' hv' => by
    have hi' := Y.off hi (Off.of_below (S := fun _ => False) hb) (fun _ => False.elim)
    have h1 := Y.call (e := (key, L)) hi' hr ⟨_, rfl, hk, hs', hL, (hv'.mono fun b hb2 e => by have := Y.lt hi e; omega)⟩
    exact h1.mono fun e w2 ⟨O', he, hi2, ho2, hO2⟩ => ⟨O', he, hi2, ((Off.of_below hb).mono (S' := O) (fun _ => False.elim)).trans ho2, fun k hk => by
      rcases hO2 k hk with e | ⟨x, v', y, e, e2⟩ | e
      · exact .inl e
      · simp only [Array.mk.injEq, List.cons.injEq, Value.agg.injEq] at e
        obtain ⟨⟨_, rfl, _⟩, _⟩ := e
        exact .inr (hv'.blk e2)
      · exact .inr (Nat.le_trans hb.size e)⟩
  have lB := lt_of_cell hB
  have lM := lt_of_cell hM
  have HI := Lib.hid hi
  have HMO := Lib.hid hMO
  clear hi hs hMO hBO
  refine (callsIn_wide (n := 9)).1 ?_
  refine callsIn_of_wp Try.func63 rfl trivial ?_ rfl
  simp only [Try.ntmps63, List.size_toArray, List.length_cons, List.length_nil, Nat.reduceAdd, Nat.reduceSub, Array.replicate_succ, Array.replicate_zero, List.push_toArray, List.append_toArray, List.nil_append, List.cons_append]
  gi_wp2
  gi_region_with (first
    | (refine ⟨trivial, ?_⟩; gi_at_call 64; go_loud (refine (HC.out _ (Below.refl _ _).drew).mono ?_; rintro e w2 ⟨A', c', rfl, hf⟩; have hb2 := (Below.refl w.heap.size w).drew.trans (hf.bel.mono (by simp)); have cB2 := (hb2.cell (p := ⟨B, 0, none⟩) lB).trans hB; have hfs := hf.slA; obtain ⟨fn, tmps, assign, body, hy, hR⟩ := HY.out w2 A' c' hb2 hfs.1.slB (fun b o n c e _ => hfs.2 b o n c e); (try dsimp only at hy); have HR := Lib.hid hR; clear hR hf hfs hb2))
    | (go_simp; (with_reducible refine HR.out.mono ?_); rintro e w3 ⟨O', rfl, hi3, ho3, hO3⟩; have H3 := Lib.hid (show Y.Iv w3 O' (f a (key, L)).1 ∧ Off O w w3 ∧ ∀ k, O' k → O k ∨ w.heap.size ≤ k from ⟨hi3, ho3, hO3⟩); have cM3 := (ho3.cell (p := ⟨M, 0, none⟩) lM HMO.out).trans hM; have fM3 := (ho3.frozen (p := ⟨M, 0, none⟩) lM HMO.out).trans fM; clear hi3 ho3 hO3))
  all_goals
    gi_wp2
    go_ret
    have hMO' : ∀ k, k = M → ¬ O' k := fun k e hO => by
      subst e
      rcases H3.out.2.2 _ hO with h | h
      · exact HMO.out h
      · omega
    have hof : Off (· = M) w3 (w3.setCell ⟨M, 0, none⟩ (.bool (f a (key, L)).2)) := (Off.refl (· = M) w3).setCell (p := ⟨M, 0, none⟩) rfl _
    exact ⟨O', rfl, Y.off H3.out.1 hof hMO', ⟨World.cell?_setCell_same _ _ _ cM3, (World.frozen?_setCell _ _ _ _).trans fM3⟩, (H3.out.2.1.mono fun k e => .inl e).trans (hof.mono fun k e => .inr e), H3.out.2.2⟩
/-- The callback's own state: what is ranged over, and whether it goes on. -/
def fMo (f : α → Nat × Bytes → α × Bool) : α × Bool → Nat → Bytes → (α × Bool) × Bool := fun a k v => (((f a.1 (k, v)).1, (f a.1 (k, v)).2), (f a.1 (k, v)).2)
def pcbD (Y : YldG f argP ownP) (B M : Nat) : Pcb (fMo f) where
  gf := 63
  lb := #[.pointer (some ⟨B, 0, none⟩), .pointer (some ⟨M, 0, none⟩)]
  ent := ent_fn Try.func63 (by kernel_rfl) rfl
  Iv := fun w O a => ∃ O1 : Nat → Prop, Y.Iv w O1 a.1 ∧ w.cell? ⟨B, 0, none⟩ = some (.func (.yield Y.l) #[] #[]) ∧ (w.cell? ⟨M, 0, none⟩ = some (.bool a.2) ∧ w.frozen? ⟨M, 0, none⟩ = false) ∧ (¬ O1 B ∧ ¬ O1 M ∧ B ≠ M) ∧ ∀ k, O k ↔ O1 k ∨ k = B ∨ k = M
  Rdy := fun a n => Y.Rdy a.1 n
  mono := fun a n m => Y.mono a.1 n m
  step := fun a k v n h h2 => Y.step a.1 (k, v) n h h2
  off := fun {S O w w' a} h ho hs => by
    obtain ⟨O1, h1, h2, ⟨h3, h5⟩, h6, h4⟩ := h
    have nB : ¬ S B := fun e => hs B e ((h4 B).2 (.inr (.inl rfl)))
    have nM : ¬ S M := fun e => hs M e ((h4 M).2 (.inr (.inr rfl)))
    exact ⟨O1, Y.off h1 ho (fun k e e2 => hs k e ((h4 k).2 (.inl e2))), (ho.cell (p := ⟨B, 0, none⟩) (lt_of_cell h2) nB).trans h2, ⟨(ho.cell (p := ⟨M, 0, none⟩) (lt_of_cell h3) nM).trans h3, (ho.frozen (p := ⟨M, 0, none⟩) (lt_of_cell h3) nM).trans h5⟩, h6, h4⟩
  lt := fun {O w a k} h hk => by
    obtain ⟨O1, h1, h2, ⟨h3, h5⟩, h6, h4⟩ := h
    rcases (h4 k).1 hk with e | e | e
    · exact Y.lt h1 e
    · rw [e]; exact lt_of_cell h2
    · rw [e]; exact lt_of_cell h3
  call := fun {w O a key v L} h hr hk hs hL hv => by
    obtain ⟨O1, h1, h2, ⟨h3, h5⟩, ⟨h6, h7, h8⟩, h4⟩ := h
    refine (dpairs11_any Y h1 h2 h3 h5 h7 h6 h8 hr hk hs hL).mono ?_
    rintro e w' ⟨O2, he, hi, hm, ho, hO⟩
    have hB := lt_of_cell h2
    have hM := lt_of_cell h3
    have nB : ¬ (O1 B ∨ B = M) := fun e => e.elim h6 h8
    refine ⟨fun k => O2 k ∨ k = B ∨ k = M, he, ⟨O2, hi, (ho.cell (p := ⟨B, 0, none⟩) hB nB).trans h2, hm, ⟨fun e => ?_, fun e => ?_, h8⟩, fun k => Iff.rfl⟩, ho.mono fun k e => (h4 k).2 (e.imp id .inr), fun k e => ?_⟩
    · rcases hO B e with e | e
      · exact h6 e
      · omega
    · rcases hO M e with e | e
      · exact h7 e
      · omega
    · rcases e with e | e | e
      · exact (hO k e).imp (fun e => (h4 k).2 (.inl e)) id
      · exact .inl ((h4 k).2 (.inr (.inl e)))
      · exact .inl ((h4 k).2 (.inr (.inr e)))
end
end Go.Proofs.Ytgkdggidgaifhaa
namespace Go.Proofs.Ytgkdggidgaifhaa
open Go.RowKit
set_option linter.unusedVariables false
set_option linter.unusedSimpArgs false

section
variable {α : Type} {f : α → Nat × Bytes → α × Bool}
/-- The sequence has come to its end, without an error. -/
def SqD {σ : Type} {K : SnkF σ} (M : Snk K) (Y : YldG f argP ownP) (w : World) (T : Nat) (O Ov : Nat → Prop) (p : Int) (s' : σ) (a' : α) (e : Ending) (w' : World) : Prop :=
  ∃ Ov' : Nat → Prop, (∃ v, e = .returned v) ∧ TrAt M w' T O s' p ∧ Y.Iv w' Ov' a' ∧ Off (fun k => O k ∨ Ov k) w w' ∧ ∀ k, Ov' k → Ov k ∨ w.heap.size ≤ k
set_option maxRecDepth 100000 in
set_option maxHeartbeats 2000000 in
theorem dpairs1_any {σ : Type} {K : SnkF σ} {M : Snk K} (hK : K.Good) (Y : YldG f argP ownP) {w : World} {T B2 B3 : Nat} {O Ov : Nat → Prop} {s s' : σ} {p : Int} {a a' : α} {r : Int × Int} {left' : Int} {more m2 : Bool} (h : TrAt M w T O s p) (hi : Y.Iv w Ov a) (hr : K.Rdy s 0) (hc : Y.Rdy a 16777216) (d1 : ∀ k, O k → ¬ Ov k) (d2 : ¬ Ov T)
    (c2 : w.cell? ⟨B2, 0, none⟩ = some (.pointer (some ⟨T, 0, none⟩))) (c3 : BoxA w B3 r)
    (hwk : walkF K (pairsC (fMo f)) 7 (s, 1048576, (a, true)) r 0 0 = ((s', left', (a', more)), m2, 0)) :
    Calls Try.prog 62 #[.func (.yield Y.l) #[] #[], .pointer (some ⟨B2, 0, none⟩), .pointer (some ⟨B3, 0, none⟩)] w (SqD M Y w T O Ov p s' a') := by
  obtain ⟨ra, rb⟩ := r
  have H := Lib.hid h
  have HI := Lib.hid hi
  have HC := Lib.hid hc
  have HOL := Lib.hid (fun k hk => M.lt h.at_ (k := k) hk)
  have HVL := Lib.hid (fun k hk => Y.lt hi (k := k) hk)
  have hT := h.lt
  have l2 := lt_of_cell c2
  have c30 := c3.1
  have c31 := c3.2.1
  have l3 := c3.lt
  simp only at c30 c31
  clear h hi hc c3
  go_enter Try.func62, Try.ntmps62
  go_upto_region 2 with (fail)
  have tb : ∀ W, W = ((w.alloc (.cells #[.func (.yield Y.l) #[] #[]] 125)).alloc (.cells #[.bool true] 4)) →
      Below w.heap.size w W ∧ W.cell? ⟨w.heap.size, 0, none⟩ = some (.func (.yield Y.l) #[] #[]) ∧ W.cell? ⟨w.heap.size + 1, 0, none⟩ = some (.bool true) ∧ W.frozen? ⟨w.heap.size + 1, 0, none⟩ = false ∧ W.heap.size = w.heap.size + 2 := by
    rintro W rfl
    have s1 : (w.alloc (.cells #[.func (.yield Y.l) #[] #[]] 125)).heap.size = w.heap.size + 1 := by simp
    have b1 : Below w.heap.size w (w.alloc (.cells #[.func (.yield Y.l) #[] #[]] 125)) := (Below.refl _ _).alloc (Nat.le_refl _) _
    have x1 := (alloc_at w (.func (.yield Y.l) #[] #[]) 125).1
    generalize w.alloc (.cells #[.func (.yield Y.l) #[] #[]] 125) = W1 at *
    have b2 : Below W1.heap.size W1 (W1.alloc (.cells #[.bool true] 4)) := (Below.refl _ _).alloc (Nat.le_refl _) _
    have x2 := alloc_at W1 (.bool true) 4
    rw [s1] at x2
    exact ⟨b1.trans (b2.mono (by omega)), (b2.cell (p := ⟨w.heap.size, 0, none⟩) (by show w.heap.size < W1.heap.size; omega)).trans x1, x2.1, x2.2, by simp [s1]⟩
  refine wp_forget (fun W => Below w.heap.size w W ∧ W.cell? ⟨w.heap.size, 0, none⟩ = some (.func (.yield Y.l) #[] #[]) ∧ W.cell? ⟨w.heap.size + 1, 0, none⟩ = some (.bool true) ∧ W.frozen? ⟨w.heap.size + 1, 0, none⟩ = false ∧ W.heap.size = w.heap.size + 2) (tb _ rfl) ?_
  clear tb
  rintro W0 ⟨hb, cB, cM, fM, hs0⟩
  have e2 := (hb.cell (p := ⟨B2, 0, none⟩) l2).trans c2
  have e3 := (hb.cell (p := ⟨B3, 0, none⟩) l3).trans c30
  have e4 := (hb.cell (p := ⟨B3, 1, none⟩) l3).trans c31
  have l2' := lt_of_cell e2
  have l3' := lt_of_cell e3
  have HP : Hid (Calls Try.prog 41 #[.pointer (some ⟨T, 0, none⟩), .agg #[.int .i64 ra, .int .i64 rb], .func (.func 63) #[] #[.pointer (some ⟨w.heap.size, 0, none⟩), .pointer (some ⟨w.heap.size + 1, 0, none⟩)]] W0 (PsPost M (pcbD Y w.heap.size (w.heap.size + 1)) W0 T O (fun k => Ov k ∨ k = w.heap.size ∨ k = w.heap.size + 1) p ((s', left', (a', more)), m2, 0))) := Lib.hid (by
    rw [← hwk]
    exact pairs_any hK (pcbD Y w.heap.size (w.heap.size + 1)) (H.out.up hb) (a := (a, true)) ⟨Ov, Y.off HI.out (Off.of_below (S := fun _ => False) hb) (fun _ => False.elim), cB, ⟨cM, fM⟩, ⟨fun e => by have := HVL.out _ e; omega, fun e => by have := HVL.out _ e; omega, by omega⟩, fun k => Iff.rfl⟩ hr HC.out
      (fun k hk e => by
        rcases e with e | e | e
        · exact d1 k hk e
        · have := HOL.out k hk; omega
        · have := HOL.out k hk; omega) (fun e => by
        rcases e with e | e | e
        · exact d2 e
        · omega
        · omega) (ra, rb))
  have HB := Lib.hid hb
  clear hb c2 c30 c31 cB cM fM hwk
  go_wp2_with fail
  refine HP.out.mono ?_
  rintro e W9 ⟨Ov9, rfl, htr, ⟨O1, i1, i2, i3, i5, i4⟩, hof, hO9⟩
  have HF : Hid (Off (fun k => O k ∨ Ov k) w W9) := Lib.hid (((Off.of_below HB.out).mono (fun _ => False.elim)).late hof fun i hl hi => by
    rcases hi with e | e | e | e
    · exact .inl e
    · exact .inr e
    · omega
    · omega)
  have HT := Lib.hid htr
  have HI1 := Lib.hid i1
  have HO1 : Hid (∀ k, O1 k → Ov k ∨ w.heap.size ≤ k) := Lib.hid fun k e => by
    have := HB.out.size
    rcases hO9 k ((i4 k).2 (.inl e)) with (e2 | e2 | e2) | e2
    · exact .inl e2
    · exact .inr (by omega)
    · exact .inr (by omega)
    · exact .inr (by omega)
  clear htr i1 i2 i3 i4 i5 hof hO9 HP
  go_wp2
  go_end0
  exact ⟨O1, ⟨_, rfl⟩, HT.out, HI1.out, HF.out, HO1.out⟩
def DpPost (w : World) (T : Nat) (r : Int × Int) (e : Ending) (w' : World) : Prop :=
  e = .returned (.func (.func 62) #[] #[.pointer (some ⟨w.heap.size, 0, none⟩), .pointer (some ⟨w.heap.size + 1, 0, none⟩)]) ∧ Below w.heap.size w w' ∧ w'.heap.size = w.heap.size + 2 ∧ w'.cell? ⟨w.heap.size, 0, none⟩ = some (.pointer (some ⟨T, 0, none⟩)) ∧ BoxA w' (w.heap.size + 1) r
theorem dpairs_any (w : World) (T : Nat) (r : Int × Int) : Calls Try.prog 47 #[.pointer (some ⟨T, 0, none⟩), addrV r] w (DpPost w T r) := by
  obtain ⟨ra, rb⟩ := r
  unfold addrV
  go_enter Try.func47, Try.ntmps47
  go_wp2
  go_ret
  have b1 := (Below.refl w.heap.size w).alloc (Nat.le_refl _) (.cells #[.pointer (some ⟨T, 0, none⟩)] 25)
  have c1 := (alloc_at w (.pointer (some ⟨T, 0, none⟩)) 25).1
  have s1 : (w.alloc (.cells #[.pointer (some ⟨T, 0, none⟩)] 25)).heap.size = w.heap.size + 1 := by simp
  generalize w.alloc (.cells #[.pointer (some ⟨T, 0, none⟩)] 25) = W1 at *
  have b2 : Below W1.heap.size W1 (W1.alloc (.cells #[.int .i64 ra, .int .i64 rb] 30)) := (Below.refl _ _).alloc (Nat.le_refl _) _
  have x2 := BoxA.new W1 30 (ra, rb)
  rw [s1] at x2
  exact ⟨by simp [s1], b1.trans (b2.mono (by omega)), by simp [s1], (b2.cell (p := ⟨w.heap.size, 0, none⟩) (by show w.heap.size < W1.heap.size; omega)).trans c1, x2⟩
end
end Go.Proofs.Ytgkdggidgaifhaa
namespace Go.Proofs.Ytgkdggidgaifhaa
open Go.RowKit Go.Maps
set_option linter.unusedVariables false
set_option linter.unusedSimpArgs false

theorem row3_off {B : Nat} {w w' : World} {v : Value} {t : TypeId} {k n : Nat} {xs : List Value} {S : Nat → Prop} (h : w.ownsRow B t k v n xs) (ho : Off S w w') (hs : ∀ g, v.ownBlock = some g → ¬ S g) : w'.ownsRow B t k v n xs := by
  refine ⟨h.1, ?_⟩
  rcases h.2 with hn | ⟨g, cap, cur, hh, hb, hgg, rest⟩
  · exact .inl hn
  · refine .inr ⟨g, cap, cur, hh, hb, ?_, rest⟩
    rw [ho.block g (Array.getElem?_eq_some_iff.1 hgg).1 (hs g (by rw [hh]; rfl))]
    exact hgg
/-- A pair that was told: its key, its bytes, the slice in which they lie. -/
abbrev Tp := Nat × Bytes × Value
def tpC (L : List Tp) : List Value := L.flatMap fun x => [.int .i64 (x.1 : Nat), x.2.2, .int .i64 0]
def tpP (L : List Tp) : List (Nat × Bytes) := L.map fun x => (x.1, x.2.1)
def tpO (L : List Tp) (k : Nat) : Prop := ∃ x ∈ L, vblk x.2.2 k
structure TpOk (w : World) (L : List Tp) : Prop where
  vals : ∀ x ∈ L, SlB w x.2.2 x.2.1 ∧ x.1 < 16777216 ∧ x.2.1.length ≤ 256
  apart : L.Pairwise fun x y => ∀ k, vblk x.2.2 k → ¬ vblk y.2.2 k
theorem TpOk.off {S : Nat → Prop} {w w' : World} {L : List Tp} (h : TpOk w L) (ho : Off S w w') (hs : ∀ k, S k → ¬ tpO L k) : TpOk w' L :=
  ⟨fun x hx => ⟨(h.vals x hx).1.offP ho (.of_blk fun k hk e => hs k e ⟨x, hx, hk⟩), (h.vals x hx).2⟩, h.apart⟩
theorem TpOk.lt {w : World} {L : List Tp} (h : TpOk w L) {k : Nat} (hk : tpO L k) : k < w.heap.size := by
  obtain ⟨x, hx, hk⟩ := hk
  exact (h.vals x hx).1.inl.blk hk
theorem TpOk.nil (w : World) : TpOk w [] := ⟨fun x hx => (by simp at hx), .nil⟩
theorem tpO_snoc {L : List Tp} {x : Tp} {k : Nat} : tpO (L ++ [x]) k ↔ tpO L k ∨ vblk x.2.2 k := by
  constructor
  · rintro ⟨y, hy, hk⟩
    rcases List.mem_append.1 hy with hy | hy
    · exact .inl ⟨y, hy, hk⟩
    · obtain rfl := List.mem_singleton.1 hy
      exact .inr hk
  · rintro (⟨y, hy, hk⟩ | hk)
    · exact ⟨y, List.mem_append_left _ hy, hk⟩
    · exact ⟨x, by simp, hk⟩
theorem TpOk.snoc {w : World} {L : List Tp} (h : TpOk w L) {x : Tp} (hv : SlB w x.2.2 x.2.1) (hk : x.1 < 16777216) (hl : x.2.1.length ≤ 256) (hn : VIn (fun k => ¬ tpO L k) x.2.2) : TpOk w (L ++ [x]) :=
  ⟨fun y hy => by
    rcases List.mem_append.1 hy with hy | hy
    · exact h.vals y hy
    · obtain rfl := List.mem_singleton.1 hy
      exact ⟨hv, hk, hl⟩, List.pairwise_append.2 ⟨h.apart, List.pairwise_singleton _ _, fun y hy z hz k hk1 hk2 => by
    obtain rfl := List.mem_singleton.1 hz
    exact hn.blk hk2 ⟨y, hy, hk1⟩⟩⟩
theorem tpC_length (L : List Tp) : (tpC L).length = L.length * 3 := by
  induction L with
  | nil => rfl
  | cons p l ih => simp only [tpC, List.flatMap_cons, List.length_append, List.length_cons, List.length_nil] at ih ⊢; omega
theorem tpC_at : ∀ (l : List Tp) (i : Nat) (p : Tp), l[i]? = some p → (tpC l)[i * 3]? = some (.int .i64 (p.1 : Nat)) ∧ (tpC l)[i * 3 + 1]? = some p.2.2 ∧ (tpC l)[i * 3 + 2]? = some (.int .i64 0)
  | [], i, p, h => by simp at h
  | q :: l, i, p, h => by
    cases i with
    | zero => simp at h; subst h; simp [tpC]
    | succ i =>
      rw [List.getElem?_cons_succ] at h
      have := tpC_at l i p h
      simp only [tpC, List.flatMap_cons] at this ⊢
      rw [show (i + 1) * 3 = i * 3 + 3 by omega, show i * 3 + 3 + 1 = i * 3 + 1 + 3 by omega, show i * 3 + 3 + 2 = i * 3 + 2 + 3 by omega]
      simpa using this
/-- append of one element of some cells. -/
theorem run_appN {t e : TypeId} {i : TypeInfo} {z : Value} {bytes k : Nat} (ht : Try.prog.underlying t = some (.slice e)) (hi : Try.prog.info? e = some i) (hz : i.zero = some z) (hsize : i.size = k) (hby : i.bytes = bytes) (hzs : z.cells.size = k) (hk : 0 < k ∧ k ≤ 64) (hb64 : bytes ≤ 512)
    {B : Nat} {w : World} {v : Value} {n : Nat} {cs : List Value} (hown : w.ownsRow B e k v n cs) {g : Nat} {xs : List Value} (hx : xs.length = k) (hc : ∀ (j : Nat) u, xs[j]? = some u → w.cell? ⟨g, j, none⟩ = some u) (h1 : ∀ u ∈ xs, u.oneCell' = true) (hB : B ≤ w.heap.size) (hlen : n ≤ 33554432) (ty : TypeId) :
    ∃ v' w', (Builtin.append_ #[t, t] ty #[v, .slice (some ⟨g, 0, none⟩) 1 1]).run Try.prog w = .ok v' w' ∧ w'.ownsRow B e k v' (n + 1) (cs ++ xs) ∧ w.grownBy w' v.ownBlock ∧ (v'.ownBlock = v.ownBlock ∨ v'.ownBlock = some w.heap.size) ∧ ∃ A' c', v' = .slice A' (n + 1) c' ∧ n + 1 ≤ c' := by
  obtain ⟨v', w', hr, ho, hg, _, hat⟩ := run_append_own_at (P := Try.prog) w B t ty e i z k bytes ht hi hz hsize hby hzs (by omega) v n cs hown ⟨g, 0, none⟩ 1 1 xs (by omega) (fun j u hj => by
      rw [show (⟨g, 0, none⟩ : Addr).add j = ⟨g, j, none⟩ by unfold Addr.add; split <;> simp_all]
      exact hc j u hj) h1 (by unfold maxLen; omega) (Nat.le_trans (Nat.mul_le_mul (show n + 1 ≤ 33554433 by omega) hb64) (by decide)) hB
  refine ⟨v', w', hr, ho, hg, hat, ?_⟩
  rcases ho.2 with ⟨_, h0⟩ | ⟨q, cap, cur, hq, hb, hgg, hcap, _⟩
  · omega
  · exact ⟨_, _, hq, hcap⟩
theorem dpair_info : (Try.prog.info? 104).map (fun i => (i.zero, i.size, i.bytes)) = some (some (.agg #[.int .i64 0, .slice none 0 0, .int .i64 0]), 3, 40) := by kernel_rfl
/-- The collector's own: the box with the row, the row, the values' blocks. -/
structure CoIv (B0 B : Nat) (w : World) (L : List Tp) (A : Option Addr) (c : Nat) : Prop where
  box : w.cell? ⟨B, 0, none⟩ = some (.slice A L.length c)
  fz : w.frozen? ⟨B, 0, none⟩ = false
  row : w.ownsRow B0 104 3 (.slice A L.length c) L.length (tpC L)
  ok : TpOk w L
  le : B0 ≤ w.heap.size
  nB : (Value.slice A L.length c).ownBlock ≠ some B ∧ ¬ tpO L B
  nR : ∀ k, (Value.slice A L.length c).ownBlock = some k → ¬ tpO L k
def coO (B : Nat) (L : List Tp) (A : Option Addr) (n c : Nat) : Nat → Prop := fun k => k = B ∨ (Value.slice A n c).ownBlock = some k ∨ tpO L k
section
variable {B0 B c : Nat} {w w' : World} {L : List Tp} {A : Option Addr} {S : Nat → Prop}
theorem CoIv.off (h : CoIv B0 B w L A c) (ho : Off S w w') (hs : ∀ k, S k → ¬ coO B L A L.length c k) : CoIv B0 B w' L A c :=
  ⟨(ho.cell (p := ⟨B, 0, none⟩) (lt_of_cell h.box) (fun e => hs B e (.inl rfl))).trans h.box, (ho.frozen (p := ⟨B, 0, none⟩) (lt_of_cell h.box) (fun e => hs B e (.inl rfl))).trans h.fz,
    row3_off h.row ho (fun g hg e => hs g e (.inr (.inl hg))), h.ok.off ho (fun k hk e => hs k hk (.inr (.inr e))), Nat.le_trans h.le ho.size, h.nB, h.nR⟩
theorem CoIv.lt (h : CoIv B0 B w L A c) {k : Nat} (hk : coO B L A L.length c k) : k < w.heap.size := by
  rcases hk with e | e | e
  · rw [e]; exact lt_of_cell h.box
  · exact (World.ownsRow.lt h.row k e).2
  · exact h.ok.lt e
end
/-- An append whose run is told, within a fence. -/
theorem wpListIn_append_run {F : Fence} {n : Nat} {P : Program} {ops : Array Oper} {rest : List Oper} {o : Oper} {a : Act} {w w' : World} {Q : Exit → Act → World → Prop} (hgd : o.guard = none) (s x : Operand) (t : TypeId) (ho : o.op = .call { callee := .builtin .append, args := #[s, x], argTypes := #[t, t] })
    (v xv : Value) (hs : a.eval s = v) (hx : a.eval x = xv) {v' : Value} (hr : (Builtin.append_ #[t, t] o.type #[v, xv]).run P w = .ok v' w') (h : wpListIn F n P ops Q rest (a.put o.dst v') w') : wpListIn F n P ops Q (o :: rest) a w := by
  refine wpListIn_plain hgd fun K hK => ?_
  unfold Oper.wpIn
  refine ⟨?_, ?_⟩
  · simp [Oper.about, ho, resolve, Target.leads, Sem.run_pure]
  · rw [Oper.semAt_plain F _ _ (by rw [ho]; intro c hc'; cases hc')]
    simp [execOp, ho, resolve, invoke, builtin, hs, hx, hr, Result.andThen]
    exact hK _ _ h
/-- One pair more. -/
theorem CoIv.next {B0 B c : Nat} {w wa : World} {L : List Tp} {A : Option Addr} {x : Tp} {g : Nat} (h : CoIv B0 B w L A c) (hb : Below w.heap.size w wa) (c0 : wa.cell? ⟨g, 0, none⟩ = some (.int .i64 (x.1 : Nat))) (c1 : wa.cell? ⟨g, 1, none⟩ = some x.2.2) (c2 : wa.cell? ⟨g, 2, none⟩ = some (.int .i64 0))
    (hv : SlB w x.2.2 x.2.1) (hk : x.1 < 16777216) (hl : x.2.1.length ≤ 256) (hn : VIn (fun k => ¬ coO B L A L.length c k) x.2.2) (hlen : L.length ≤ 33554432) (ty : TypeId) :
    ∃ A' c' w', (Builtin.append_ #[101, 101] ty #[.slice A L.length c, .slice (some ⟨g, 0, none⟩) 1 1]).run Try.prog wa = .ok (.slice A' (L.length + 1) c') w' ∧ w'.cell? ⟨B, 0, none⟩ = some (.slice A L.length c) ∧
      CoIv B0 B (w'.setCell ⟨B, 0, none⟩ (.slice A' (L.length + 1) c')) (L ++ [x]) A' c' ∧ Off (coO B L A L.length c) w (w'.setCell ⟨B, 0, none⟩ (.slice A' (L.length + 1) c')) ∧ ∀ k, coO B (L ++ [x]) A' (L ++ [x]).length c' k → coO B L A L.length c k ∨ vblk x.2.2 k ∨ w.heap.size ≤ k := by
  obtain ⟨i0, hi, hz0, hz1, hz2⟩ := info_parts dpair_info
  have ha := h.off (S := fun _ => False) (Off.of_below hb) (fun _ => False.elim)
  have hva := hv.up hb
  have hsz := hb.size
  have hcell : ∀ (j : Nat) u, [Value.int .i64 (x.1 : Nat), x.2.2, Value.int .i64 0][j]? = some u → wa.cell? ⟨g, j, none⟩ = some u := fun j u hj => by
    match j, hj with
    | 0, hj => simp at hj; rw [c0, hj]
    | 1, hj => simp at hj; rw [c1, hj]
    | 2, hj => simp at hj; rw [c2, hj]
  obtain ⟨Av, nv, cv, hxe, _, _⟩ := id hv
  obtain ⟨v', w', hr, ho, hg, hat, A', c', rfl, hcap⟩ := run_appN (t := 101) Try.underlying101 hi hz0 hz1 hz2 rfl (by omega) (by omega) ha.row (g := g) (xs := [.int .i64 (x.1 : Nat), x.2.2, .int .i64 0]) rfl hcell (fun u hu => by
      simp only [List.mem_cons, List.mem_singleton, List.not_mem_nil, or_false] at hu
      rcases hu with rfl | rfl | rfl
      · simp [Value.oneCell']
      · rw [hxe]; simp [Value.oneCell']
      · simp [Value.oneCell']) ha.le hlen ty
  have hof := grown_off hg
  have hcB : w'.cell? ⟨B, 0, none⟩ = some (.slice A L.length c) := (hof.cell (p := ⟨B, 0, none⟩) (lt_of_cell ha.box) h.nB.1).trans ha.box
  have hfB : w'.frozen? ⟨B, 0, none⟩ = false := (hof.frozen (p := ⟨B, 0, none⟩) (lt_of_cell ha.box) h.nB.1).trans ha.fz
  have oB : Off (· = B) w' (w'.setCell ⟨B, 0, none⟩ (.slice A' (L.length + 1) c')) := (Off.refl (· = B) w').setCell (p := ⟨B, 0, none⟩) rfl _
  have lenE : (L ++ [x]).length = L.length + 1 := by simp
  have hown : ∀ k, (Value.slice A' (L.length + 1) c').ownBlock = some k → (Value.slice A L.length c).ownBlock = some k ∨ k = wa.heap.size := fun k e => by
    rcases hat with e2 | e2
    · exact .inl (by rw [← e2]; exact e)
    · rw [e2] at e; injection e with e; exact .inr e.symm
  have hBlt := lt_of_cell h.box
  have hnew : ∀ k, vblk x.2.2 k → k < w.heap.size := fun k hk => hv.inl.blk hk
  have nB1 : (Value.slice A' (L.length + 1) c').ownBlock ≠ some B := fun e => by
    rcases hown B e with e2 | e2
    · exact h.nB.1 e2
    · omega
  have hok : TpOk w' L := ha.ok.off hof (fun k hk e => h.nR k hk e)
  have hsv : SlB w' x.2.2 x.2.1 := hva.offP hof (hn.mono fun k hk e => hk (.inr (.inl e)))
  refine ⟨A', c', w', hr, hcB, ⟨by rw [lenE]; exact World.cell?_setCell_same _ _ _ hcB, (World.frozen?_setCell _ _ _ _).trans hfB, ?_, ?_, by have := ha.le; have := hg.size; have := oB.size; omega, ⟨by rw [lenE]; exact nB1, fun e => ?_⟩, fun k hk e => ?_⟩, ?_, fun k hk => ?_⟩
  · rw [lenE, show tpC (L ++ [x]) = tpC L ++ [.int .i64 (x.1 : Nat), x.2.2, .int .i64 0] by simp [tpC]]
    exact row3_off ho oB (fun g hg e => nB1 (by rw [hg, e]))
  · refine TpOk.off (S := (· = B)) (hok.snoc hsv hk hl (hn.mono fun k hk e => hk (.inr (.inr e)))) oB fun k hk e => ?_
    subst hk
    rcases tpO_snoc.1 e with e | e
    · exact h.nB.2 e
    · exact hn.blk e (.inl rfl)
  · rcases tpO_snoc.1 e with e | e
    · exact h.nB.2 e
    · exact hn.blk e (.inl rfl)
  · rw [lenE] at hk
    rcases hown k hk with e2 | e2
    · rcases tpO_snoc.1 e with e | e
      · exact h.nR k e2 e
      · exact hn.blk e (.inr (.inl e2))
    · rcases tpO_snoc.1 e with e | e
      · have := h.ok.lt e; omega
      · have := hnew k e; omega
  · refine ((Off.of_below hb).mono (S' := coO B L A L.length c) (fun _ => False.elim)).trans ((hof.mono fun k e => .inr (.inl e)).trans (oB.mono fun k e => .inl e))
  · rw [lenE] at hk
    rcases hk with e | e | e
    · exact .inl (.inl e)
    · rcases hown k e with e2 | e2
      · exact .inl (.inr (.inl e2))
      · exact .inr (.inr (by omega))
    · rcases tpO_snoc.1 e with e | e
      · exact .inl (.inr (.inr e))
      · exact .inr (.inl e)
/-- A list of pairs in memory. -/
structure LsAt (w : World) (A : Option Addr) (L : List Tp) : Prop where
  ok : TpOk w L
  at_ : 0 < L.length → ∃ g o, A = some ⟨g, o, none⟩ ∧ g < w.heap.size ∧ ¬ tpO L g ∧ ∀ (i : Nat) (x : Tp), L[i]? = some x → w.cell? ⟨g, o + i * 3, none⟩ = some (.int .i64 (x.1 : Nat)) ∧ w.cell? ⟨g, o + i * 3 + 1, none⟩ = some x.2.2 ∧ w.cell? ⟨g, o + i * 3 + 2, none⟩ = some (.int .i64 0)
def lsO (A : Option Addr) (L : List Tp) (k : Nat) : Prop := (0 < L.length ∧ ∃ o, A = some ⟨k, o, none⟩) ∨ tpO L k
theorem LsAt.off {S : Nat → Prop} {w w' : World} {A : Option Addr} {L : List Tp} (h : LsAt w A L) (ho : Off S w w') (hs : ∀ k, S k → ¬ lsO A L k) : LsAt w' A L :=
  ⟨h.ok.off ho (fun k hk e => hs k hk (.inr e)), fun hp => by
    obtain ⟨g, o, rfl, hg, hn, hc⟩ := h.at_ hp
    have hng : ¬ S g := fun e => hs g e (.inl ⟨hp, o, rfl⟩)
    exact ⟨g, o, rfl, Nat.lt_of_lt_of_le hg ho.size, hn, fun i x hx => ⟨(ho.cell (p := ⟨g, _, none⟩) hg hng).trans (hc i x hx).1, (ho.cell (p := ⟨g, _, none⟩) hg hng).trans (hc i x hx).2.1, (ho.cell (p := ⟨g, _, none⟩) hg hng).trans (hc i x hx).2.2⟩⟩⟩
theorem LsAt.lt {w : World} {A : Option Addr} {L : List Tp} (h : LsAt w A L) {k : Nat} (hk : lsO A L k) : k < w.heap.size := by
  rcases hk with ⟨hp, o, e⟩ | e
  · obtain ⟨g, o', rfl, hg, _⟩ := h.at_ hp
    cases e
    exact hg
  · exact h.ok.lt e
theorem CoIv.ls {B0 B c : Nat} {w : World} {L : List Tp} {A : Option Addr} (h : CoIv B0 B w L A c) : LsAt w A L ∧ ∀ k, lsO A L k → coO B L A L.length c k := by
  refine ⟨⟨h.ok, fun hp => ?_⟩, fun k hk => ?_⟩
  · obtain ⟨G, cap, hG, hcap, _⟩ := World.ownsRow.form h.row hp
    have hlt := World.ownsRow.lt h.row
    have hnR := h.nR
    have hrow := h.row
    rw [hG] at hlt hnR
    cases hG
    refine ⟨G, 0, rfl, (hlt G rfl).2, hnR G rfl, fun i x hx => ?_⟩
    have e : ∀ j, (⟨G, 0, none⟩ : Addr).add j = ⟨G, j, none⟩ := fun j => by unfold Addr.add; split <;> simp_all
    obtain ⟨a0, a1, a2⟩ := tpC_at L i x hx
    have c0 := World.ownsRow.cells hrow (g := G) rfl _ _ a0
    have c1 := World.ownsRow.cells hrow (g := G) rfl _ _ a1
    have c2 := World.ownsRow.cells hrow (g := G) rfl _ _ a2
    rw [e] at c0 c1 c2
    rw [Nat.zero_add]
    exact ⟨c0, c1, c2⟩
  · rcases hk with ⟨hp, o, rfl⟩ | e
    · exact .inr (.inl rfl)
    · exact .inr (.inr e)
end Go.Proofs.Ytgkdggidgaifhaa
namespace Go.Proofs.Ytgkdggidgaifhaa
open Go.RowKit Go.Maps
set_option linter.unusedVariables false
set_option linter.unusedSimpArgs false

@[simp, go_sem] theorem semAtD_assign (l : Nat) (ρ : Operand → Value) x d ty po af gd : Oper.semAt (some l) ρ { dst := d, op := .assign x, type := ty, pos := po, after := af, guard := gd } = execOp ρ { dst := d, op := .assign x, type := ty, pos := po, after := af, guard := gd } := Oper.semAt_some l _ _ (fun c h => by cases h)
@[simp, go_sem] theorem semAtD_move (l : Nat) (ρ : Operand → Value) x d ty po af gd : Oper.semAt (some l) ρ { dst := d, op := .move x, type := ty, pos := po, after := af, guard := gd } = execOp ρ { dst := d, op := .move x, type := ty, pos := po, after := af, guard := gd } := Oper.semAt_some l _ _ (fun c h => by cases h)
@[simp, go_sem] theorem semAtD_load (l : Nat) (ρ : Operand → Value) t1 x d ty po af gd : Oper.semAt (some l) ρ { dst := d, op := .load t1 x, type := ty, pos := po, after := af, guard := gd } = execOp ρ { dst := d, op := .load t1 x, type := ty, pos := po, after := af, guard := gd } := Oper.semAt_some l _ _ (fun c h => by cases h)
@[simp, go_sem] theorem semAtD_store (l : Nat) (ρ : Operand → Value) t1 x y d ty po af gd : Oper.semAt (some l) ρ { dst := d, op := .store t1 x y, type := ty, pos := po, after := af, guard := gd } = execOp ρ { dst := d, op := .store t1 x y, type := ty, pos := po, after := af, guard := gd } := Oper.semAt_some l _ _ (fun c h => by cases h)
@[simp, go_sem] theorem semAtD_binOp (l : Nat) (ρ : Operand → Value) b t1 x y t2 d ty po af gd : Oper.semAt (some l) ρ { dst := d, op := .binOp b t1 x y t2, type := ty, pos := po, after := af, guard := gd } = execOp ρ { dst := d, op := .binOp b t1 x y t2, type := ty, pos := po, after := af, guard := gd } := Oper.semAt_some l _ _ (fun c h => by cases h)
@[simp, go_sem] theorem semAtD_unOp (l : Nat) (ρ : Operand → Value) b t1 x d ty po af gd : Oper.semAt (some l) ρ { dst := d, op := .unOp b t1 x, type := ty, pos := po, after := af, guard := gd } = execOp ρ { dst := d, op := .unOp b t1 x, type := ty, pos := po, after := af, guard := gd } := Oper.semAt_some l _ _ (fun c h => by cases h)
@[simp, go_sem] theorem semAtD_pick (l : Nat) (ρ : Operand → Value) x y z d ty po af gd : Oper.semAt (some l) ρ { dst := d, op := .pick x y z, type := ty, pos := po, after := af, guard := gd } = execOp ρ { dst := d, op := .pick x y z, type := ty, pos := po, after := af, guard := gd } := Oper.semAt_some l _ _ (fun c h => by cases h)
@[simp, go_sem] theorem semAtD_conv (l : Nat) (ρ : Operand → Value) t1 t2 x d ty po af gd : Oper.semAt (some l) ρ { dst := d, op := .convert t1 t2 x, type := ty, pos := po, after := af, guard := gd } = execOp ρ { dst := d, op := .convert t1 t2 x, type := ty, pos := po, after := af, guard := gd } := Oper.semAt_some l _ _ (fun c h => by cases h)
@[simp, go_sem] theorem semAtD_ext (l : Nat) (ρ : Operand → Value) x i d ty po af gd : Oper.semAt (some l) ρ { dst := d, op := .extract x i, type := ty, pos := po, after := af, guard := gd } = execOp ρ { dst := d, op := .extract x i, type := ty, pos := po, after := af, guard := gd } := Oper.semAt_some l _ _ (fun c h => by cases h)
@[simp, go_sem] theorem semAtD_look (l : Nat) (ρ : Operand → Value) t1 x y b d ty po af gd : Oper.semAt (some l) ρ { dst := d, op := .lookup t1 x y b, type := ty, pos := po, after := af, guard := gd } = execOp ρ { dst := d, op := .lookup t1 x y b, type := ty, pos := po, after := af, guard := gd } := Oper.semAt_some l _ _ (fun c h => by cases h)
@[simp, go_sem] theorem semAtD_alloc (l : Nat) (ρ : Operand → Value) t1 d ty po af gd : Oper.semAt (some l) ρ { dst := d, op := .alloc t1, type := ty, pos := po, after := af, guard := gd } = execOp ρ { dst := d, op := .alloc t1, type := ty, pos := po, after := af, guard := gd } := Oper.semAt_some l _ _ (fun c h => by cases h)
@[simp, go_sem] theorem semAtD_bslice (l : Nat) (ρ : Operand → Value) t1 n els d ty po af gd : Oper.semAt (some l) ρ { dst := d, op := .buildSlice t1 n els, type := ty, pos := po, after := af, guard := gd } = execOp ρ { dst := d, op := .buildSlice t1 n els, type := ty, pos := po, after := af, guard := gd } := Oper.semAt_some l _ _ (fun c h => by cases h)
@[simp, go_sem] theorem semAtD_build (l : Nat) (ρ : Operand → Value) t1 els d ty po af gd : Oper.semAt (some l) ρ { dst := d, op := .build t1 els, type := ty, pos := po, after := af, guard := gd } = execOp ρ { dst := d, op := .build t1 els, type := ty, pos := po, after := af, guard := gd } := Oper.semAt_some l _ _ (fun c h => by cases h)
@[simp, go_sem] theorem semAtD_box (l : Nat) (ρ : Operand → Value) t1 x d ty po af gd : Oper.semAt (some l) ρ { dst := d, op := .box t1 x, type := ty, pos := po, after := af, guard := gd } = execOp ρ { dst := d, op := .box t1 x, type := ty, pos := po, after := af, guard := gd } := Oper.semAt_some l _ _ (fun c h => by cases h)
@[simp, go_sem] theorem semAtD_faddr (l : Nat) (ρ : Operand → Value) t1 x i d ty po af gd : Oper.semAt (some l) ρ { dst := d, op := .fieldAddr t1 x i, type := ty, pos := po, after := af, guard := gd } = execOp ρ { dst := d, op := .fieldAddr t1 x i, type := ty, pos := po, after := af, guard := gd } := Oper.semAt_some l _ _ (fun c h => by cases h)
@[simp, go_sem] theorem semAtD_iaddr (l : Nat) (ρ : Operand → Value) t1 x y d ty po af gd : Oper.semAt (some l) ρ { dst := d, op := .indexAddr t1 x y, type := ty, pos := po, after := af, guard := gd } = execOp ρ { dst := d, op := .indexAddr t1 x y, type := ty, pos := po, after := af, guard := gd } := Oper.semAt_some l _ _ (fun c h => by cases h)
@[simp, go_sem] theorem semAtD_call (l : Nat) (ρ : Operand → Value) c d ty po af gd : Oper.semAt (some l) ρ { dst := d, op := .call c, type := ty, pos := po, after := af, guard := gd } = execOp ρ { dst := d, op := .call c, type := ty, pos := po, after := af, guard := gd } := Oper.semAt_some l _ _ (fun c h => by cases h)
/-- The deferred block is taken. -/
theorem leaves_end {P : Program} {fn : Func} {tmps : Array Value} {R : Ending → World → Prop} {F : Fence} {m D : Nat} {v : Value} {w : World} (hK : w.heap[D]? = some (.deferred (some []))) (hr : (results fn tmps).run P (w.putObj D (.deferred none)) = .ok v (w.putObj D (.deferred none))) (hR : R (.returned v) (w.putObj D (.deferred none))) :
    LeavesInM F m P fn tmps R [{ target := .collected D, args := #[] }] .returning w :=
  ⟨by simp, .inl ⟨D, _, rfl, run_takeDeferred hK, ⟨v, hr, hR⟩⟩⟩
theorem results_tmp1 {fn : Func} {p : Tmp} (h : fn.results = #[.tmp p]) (tmps : Array Value) (w : World) {v : Value} (hp : tmps.getD p undef = v) : (results fn tmps).run Try.prog w = .ok v w := by
  have hp2 : tmps[p]?.getD undef = v := by rw [← hp]; simp [Array.getD_eq_getD_getElem?]
  simp [results, h, hp2, Result.andThen]
def fCo (a : List (Nat × Bytes)) (e : Nat × Bytes) : List (Nat × Bytes) × Bool := (a ++ [e], true)
/-- What was collected. -/
structure CoOk {σ : Type} {K : SnkF σ} (M : Snk K) (w w' : World) (T : Nat) (O : Nat → Prop) (s' : σ) (p : Int) (ps : List (Nat × Bytes)) (A : Option Addr) (c : Nat) (L : List Tp) : Prop where
  le : L.length ≤ c
  ps : tpP L = ps
  ls : LsAt w' A L
  ge : ∀ k, lsO A L k → w.heap.size ≤ k
  tr : TrAt M w' T O s' p
  off : Off O w w'
def CoPost {σ : Type} {K : SnkF σ} (M : Snk K) (w : World) (T : Nat) (O : Nat → Prop) (s' : σ) (p : Int) (ps : List (Nat × Bytes)) (e : Ending) (w' : World) : Prop :=
  ∃ A c L, e = .returned (.slice A L.length c) ∧ CoOk M w w' T O s' p ps A c L
def coInv (B0 B : Nat) (w : World) (O1 : Nat → Prop) (a : List (Nat × Bytes)) : Prop := ∃ L A c, tpP L = a ∧ CoIv B0 B w L A c ∧ ∀ k, O1 k ↔ coO B L A L.length c k
set_option maxRecDepth 100000 in
set_option maxHeartbeats 4000000 in
theorem appendSeq_any {σ : Type} {K : SnkF σ} {M : Snk K} (hK : K.Good) {w : World} {T B2 B3 : Nat} {O : Nat → Prop} {s s' : σ} {p : Int} {r : Int × Int} {ps : List (Nat × Bytes)} {left' : Int} {m1 m2 : Bool} (h : TrAt M w T O s p) (hr : K.Rdy s 0)
    (hwk : walkF K (pairsC (fMo fCo)) 7 (s, 1048576, ([], true)) r 0 0 = ((s', left', (ps, m1)), m2, 0))
    (c2 : w.cell? ⟨B2, 0, none⟩ = some (.pointer (some ⟨T, 0, none⟩))) (c3 : BoxA w B3 r) :
    Calls Try.prog 61 #[.slice none 0 0, .func (.func 62) #[] #[.pointer (some ⟨B2, 0, none⟩), .pointer (some ⟨B3, 0, none⟩)]] w (CoPost M w T O s' p ps) := by
  have H := Lib.hid h
  have HOL := Lib.hid (fun k hk => M.lt h.at_ (k := k) hk)
  have hT := h.lt
  have l2 := lt_of_cell c2
  have HWK := Lib.hid hwk
  have C2 := Lib.hid c2
  have C3 := Lib.hid c3
  clear h hwk c2 c3
  refine (callsIn_wide (n := 9)).1 ?_
  refine callsIn_of_wp_marks Try.func61 rfl trivial ?_ rfl
  simp only [Try.ntmps61, List.size_toArray, List.length_cons, List.length_nil, Nat.reduceAdd, Nat.reduceSub, Array.replicate_succ, Array.replicate_zero, List.push_toArray, List.append_toArray, List.nil_append, List.cons_append]
  refine wpIn_wide.2 ?_
  go_wp2_with fail
  have hb0 : Below w.heap.size w (w.alloc (.cells #[.slice none 0 0] 101)) := (Below.refl w.heap.size w).alloc (Nat.le_refl _) _
  have k2 := alloc_at w (.slice none 0 0) 101
  have hs0 : (w.alloc (.cells #[.slice none 0 0] 101)).heap.size = w.heap.size + 1 := by simp
  refine wp_forget (fun W => Below w.heap.size w W ∧ (W.cell? ⟨w.heap.size, 0, none⟩ = some (.slice none 0 0) ∧ W.frozen? ⟨w.heap.size, 0, none⟩ = false) ∧ W.heap.size = w.heap.size + 1) ⟨hb0, k2, hs0⟩ ?_
  clear hb0 k2 hs0
  rintro W0 ⟨hb0, ⟨k2, f2⟩, hs0⟩
  obtain ⟨B, hB⟩ : ∃ B, w.heap.size = B := ⟨_, rfl⟩
  have hiv0 : coInv B B W0 (fun k => k = B) [] := by
    refine ⟨[], none, 0, rfl, ⟨by rw [← hB]; exact k2, by rw [← hB]; exact f2, World.ownsRow_nil _ _ _ _, TpOk.nil _, by omega, ⟨by simp [Value.ownBlock], by rintro ⟨x, hx, _⟩; simp at hx⟩, fun k e => by simp [Value.ownBlock] at e⟩, fun k => ?_⟩
    unfold coO tpO
    simp [Value.ownBlock]
  have HIV := Lib.hid hiv0
  have HB0 := Lib.hid hb0
  clear hiv0 hb0 k2 f2
  refine (wpIn_wide (n := 9)).1 ?_
  refine range_gen (F := 62) (OS := O) (Ov := fun k => k = B) rfl (ent_fn Try.func62 (by kernel_rfl) rfl) fCo (fun _ => true) argP ownP (fun _ _ _ => rfl) (fun a n => a.length + n ≤ 33554432) (fun a n m h hm => by omega) (fun a e n h => by simp only [fCo, List.length_append, List.length_cons, List.length_nil]; omega)
    (fun {W O e vs} h => by obtain ⟨v, rfl, _⟩ := h; rfl) (fun {W O e vs k} h hk => argP_own h hk) (fun {S O O1 W W' e vs} h ho hs h1 => argP_off h ho hs h1)
    (coInv B B) (fun _ _ _ _ => False) (fun {S O W W' x} h ho hs => by
      obtain ⟨L, A, c, e, hi, hO⟩ := h
      exact ⟨L, A, c, e, hi.off ho (fun k hk e2 => hs k hk ((hO k).2 e2)), hO⟩) (fun {O W x k} h hk => by
      obtain ⟨L, A, c, e, hi, hO⟩ := h
      exact hi.lt ((hO k).1 hk)) (fun {c S O W W' x} h _ _ => h) (fun {c O W x k} h _ => h.elim)
    [] 16777216 (by simp) rfl HIV.out (fun k hk => by have := HOL.out k hk; omega)
    (fun y W => y = ps ∧ TrAt M W T O s' p) (fun {y W W'} h hw ho => ⟨h.1, h.2.off ho (fun k e e2 => by have := HOL.out k e2; omega) (by omega)⟩) ?round ?seq ?fin
  case seq =>
    intro Y W1 O1 hb1 hiv hrd hO1
    have hbb : Below w.heap.size w W1 := HB0.out.trans (hb1.mono (by omega))
    have hd := dpairs1_any (M := M) hK Y (w := W1) (Ov := O1) (H.out.up hbb) hiv hr hrd (fun k hk e => by
      have := HOL.out k hk
      rcases hO1 k e with e2 | e2 <;> omega) (fun e => by rcases hO1 T e with e2 | e2 <;> omega) ((hbb.cell (p := ⟨B2, 0, none⟩) l2).trans C2.out) (C3.out.off (S := fun _ => False) (Off.of_below hbb) id) HWK.out
    refine hd.mono ?_
    rintro e W2 ⟨Ov', hv, htr, hi2, ho2, hO2⟩
    exact ⟨ps, Ov', hv, hi2, ⟨rfl, htr⟩, ho2, hO2⟩
  case round =>
    intro l x e vs W O1 hO1 hl hnl _ hrd ha
    obtain ⟨key, b⟩ := e
    obtain ⟨v, rfl, hk, hsl, hle, hvO⟩ := ha
    have HS := Lib.hid hsl
    obtain ⟨Av, nv, cv, rfl, hnv, _⟩ := hsl
    gi_wp2
    refine ⟨(Below.refl W.heap.size W).alloc (Nat.le_refl _) _, fun W2 ho hiv hA => ?_⟩
    obtain ⟨L, A, c, rfl, hI, hO⟩ := hiv
    obtain ⟨v', e, _, hs2, _, hv2⟩ := hA
    simp only [Array.mk.injEq, List.cons.injEq, Value.agg.injEq, true_and, and_true] at e
    subst e
    have s0 : W2.cell? ⟨W.heap.size, 0, none⟩ = some (.int .i64 (key : Nat)) := (ho.cell (p := ⟨W.heap.size, 0, none⟩) (by simp) (fun e => by have : W.heap.size = l := e; omega)).trans (by simp [go_sem])
    have s1 : W2.cell? ⟨W.heap.size, 1, none⟩ = some (.slice Av nv cv) := (ho.cell (p := ⟨W.heap.size, 1, none⟩) (by simp) (fun e => by have : W.heap.size = l := e; omega)).trans (by simp [go_sem])
    have s2 : W2.cell? ⟨W.heap.size, 2, none⟩ = some (.int .i64 0) := (ho.cell (p := ⟨W.heap.size, 2, none⟩) (by simp) (fun e => by have : W.heap.size = l := e; omega)).trans (by simp [go_sem])
    have hll := lt_of_cell s0
    have cB := hI.box
    have fB := hI.fz
    have lB := lt_of_cell cB
    have hlenL : L.length + 1 ≤ 33554432 := by simpa [tpP] using hrd
    obtain ⟨A', c', w', hr1, hcB, hn, ho2, hg2⟩ := hI.next (x := (key, b, .slice Av nv cv)) (g := W2.heap.size) ((Below.refl W2.heap.size W2).alloc (Nat.le_refl _) (.cells #[.int .i64 (key : Nat), .slice Av nv cv, .int .i64 0] 104)) (by simp [go_sem]) (by simp [go_sem]) (by simp [go_sem]) hs2 hk hle (hvO.mono fun k h e => h ((hO k).2 e)) (by omega) 101
    have hfB : w'.frozen? ⟨B, 0, none⟩ = false := by have := hn.fz; rwa [World.frozen?_setCell] at this
    have lB' := lt_of_cell hcB
    have HN := Lib.hid hn
    have HO2 := Lib.hid ho2
    have HG2 := Lib.hid hg2
    have HO := Lib.hid hO
    clear hn ho2 hg2 hO hI hs2 hv2 HS ho hvO hO1 hrd
    gi_wp2_with (gi_at_builtin; go_must (refine wpListIn_append_run rfl (.tmp 8) (.tmp 10) 101 rfl _ _ rfl rfl hr1 ?_))
    have hsz := HO2.out.size
    refine ⟨rfl, coO B (L ++ [(key, b, Value.slice Av nv cv)]) A' (L ++ [(key, b, Value.slice Av nv cv)]).length c', ⟨_, A', c', by simp [tpP, fCo], HN.out, fun k => Iff.rfl⟩, HO2.out.mono fun k e => .inl ((HO.out k).2 e), fun k e => ?_⟩
    rcases HG2.out k e with e | e | e
    · exact .inl ((HO.out k).2 e)
    · exact .inr (.inl ⟨_, _, _, rfl, e⟩)
    · exact .inr (.inr (by omega))
  case fin =>
    intro D W4 O1 y hD hdf hrs hof hO1 hOD
    refine ⟨fun _ hiv => ?_, fun hal => by cases hal⟩
    obtain ⟨rfl, htr⟩ := hrs
    obtain ⟨L, A, c, hLe, hi, hO⟩ := hiv
    have cB := hi.box
    have lB := lt_of_cell cB
    have HI := Lib.hid hi
    have HTR := Lib.hid htr
    have HDF := Lib.hid hdf
    have HOF : Hid (Off O w W4) := Lib.hid (((Off.of_below HB0.out).mono (fun _ => False.elim)).late hof fun i hl e => e.elim id (fun e => by omega))
    have HO := Lib.hid hO
    have HO1 := Lib.hid hO1
    clear hi htr hdf hof hO hO1
    go_wp2
    have hDB : w.heap.size ≤ D := by omega
    have oD := off_putObj W4 (l := D) (.deferred none)
    refine leaves_end HDF.out (results_tmp1 rfl _ _ rfl) ⟨A, c, L, rfl, ?_, hLe, ?_, ?_, HTR.out.off oD (fun k e hk => by have := HOL.out k hk; omega) (by omega), HOF.out.late oD fun i hl e => by omega⟩
    · rcases HI.out.row.2 with ⟨e, h0⟩ | ⟨q, cap, cur, hq, _, _, hcap, _⟩
      · omega
      · cases hq; exact hcap
    · exact HI.out.ls.1.off oD (fun k hk e => by
        subst hk
        exact hOD ((HO.out k).2 (HI.out.ls.2 k e)))
    · intro k e
      rcases HO1.out k ((HO.out k).2 (HI.out.ls.2 k e)) with e | e <;> omega
set_option maxRecDepth 100000 in
theorem collect_any {σ : Type} {K : SnkF σ} {M : Snk K} (hK : K.Good) {w : World} {T B2 B3 : Nat} {O : Nat → Prop} {s s' : σ} {p : Int} {r : Int × Int} {ps : List (Nat × Bytes)} {left' : Int} {m1 m2 : Bool} (h : TrAt M w T O s p) (hr : K.Rdy s 0)
    (hwk : walkF K (pairsC (fMo fCo)) 7 (s, 1048576, ([], true)) r 0 0 = ((s', left', (ps, m1)), m2, 0))
    (c2 : w.cell? ⟨B2, 0, none⟩ = some (.pointer (some ⟨T, 0, none⟩))) (c3 : BoxA w B3 r) :
    Calls Try.prog 46 #[.func (.func 62) #[] #[.pointer (some ⟨B2, 0, none⟩), .pointer (some ⟨B3, 0, none⟩)]] w (CoPost M w T O s' p ps) := by
  have HA := Lib.hid (appendSeq_any (M := M) hK h hr hwk c2 c3)
  clear h hr hwk c2 c3
  go_enter Try.func46, Try.ntmps46
  go_wp2_with (go_at_call 61; refine HA.out.mono ?_; rintro e w1 ⟨A, c, L, rfl, hk⟩)
  go_ret
  exact ⟨A, c, L, rfl, hk⟩
end Go.Proofs.Ytgkdggidgaifhaa
namespace Go.Proofs.Ytgkdggidgaifhaa
open Go.RowKit
set_option linter.unusedVariables false
set_option linter.unusedSimpArgs false

theorem loadVar_dp {w : World} {g : Nat} {v0 v1 v2 : Value} (h0 : w.cell? ⟨g, 0, none⟩ = some v0) (h1 : w.cell? ⟨g, 1, none⟩ = some v1) (h2 : w.cell? ⟨g, 2, none⟩ = some v2) : (loadVar 104 ⟨g, 0, none⟩).run Try.prog w = .ok (.agg #[v0, v1, v2]) w := by
  have hagg : (isAgg 104).run Try.prog w = .ok true w := by kernel_rfl
  have hsz : (sizeOf 104).run Try.prog w = .ok 3 w := by kernel_rfl
  have hl : (loadCells ⟨g, 0, none⟩ 3).run Try.prog w = .ok #[v0, v1, v2] w := by
    simp [go_sem, loadCells, loadCellsFrom, h0, h1, h2]
  simp only [loadVar, Sem.run_bind, Result.andThen_ok, hagg, if_true, hsz, hl, Sem.run_pure]
theorem results_dp {fn : Func} {p u : Tmp} (h : fn.results = #[.cell p 104, .tmp u]) (tmps : Array Value) (w : World) (g : Nat) (v0 v1 v2 : Value) (hp : tmps.getD p undef = .pointer (some ⟨g, 0, none⟩)) (h0 : w.cell? ⟨g, 0, none⟩ = some v0) (h1 : w.cell? ⟨g, 1, none⟩ = some v1) (h2 : w.cell? ⟨g, 2, none⟩ = some v2) :
    (results fn tmps).run Try.prog w = .ok (.tuple #[.agg #[v0, v1, v2], tmps.getD u undef]) w := by
  rw [results_cell_tmp h, hp]
  simp only [asAddr, Sem.run_pure, Result.andThen_ok, loadVar_dp h0 h1 h2]
/-- A block of cells, none of which a string shares. -/
structure Bx (w : World) (g : Nat) (cs : List Value) : Prop where
  pos : 0 < cs.length
  c : ∀ j u, cs[j]? = some u → w.cell? ⟨g, j, none⟩ = some u
  f : ∀ j, w.frozen? ⟨g, j, none⟩ = false
theorem Bx.lt {w : World} {g : Nat} {cs : List Value} (h : Bx w g cs) : g < w.heap.size := lt_of_cell (h.c 0 _ (List.getElem?_eq_getElem h.pos))
theorem Bx.off {S : Nat → Prop} {w w' : World} {g : Nat} {cs : List Value} (h : Bx w g cs) (ho : Off S w w') (hs : ¬ S g) : Bx w' g cs :=
  ⟨h.pos, fun j u e => (ho.cell (p := ⟨g, j, none⟩) h.lt hs).trans (h.c j u e), fun j => (ho.frozen (p := ⟨g, j, none⟩) h.lt hs).trans (h.f j)⟩
theorem Bx.new (w : World) (t : TypeId) (cs : List Value) (hp : 0 < cs.length) : Bx (w.alloc (.cells cs.toArray t)) w.heap.size cs := by
  refine ⟨hp, fun j u e => ?_, fun k => ?_⟩
  · rw [cell_of_row _ _ _ _ _ _ (heap_alloc_new w _)]
    simpa using e
  · unfold World.frozen?
    rw [heap_alloc_new]
    simp
theorem Bx.set {w : World} {g : Nat} {cs : List Value} (h : Bx w g cs) (j : Nat) (hj : j < cs.length) (u : Value) : Bx (w.setCell ⟨g, j, none⟩ u) g (cs.set j u) := by
  refine ⟨by simpa using h.pos, fun i v e => ?_, fun k => (World.frozen?_setCell _ _ _ _).trans (h.f k)⟩
  by_cases hij : i = j
  · subst hij
    rw [List.getElem?_set_self hj] at e
    cases e
    exact World.cell?_setCell_same _ _ _ (h.c i _ (List.getElem?_eq_getElem hj))
  · rw [List.getElem?_set_ne (fun e => hij e.symm)] at e
    rw [World.cell?_setCell_other _ _ _ _ (fun e2 => by injection e2 with _ e3; exact hij e3.symm)]
    exact h.c i v e
def FsPost (w : World) (x : Int × Value × Bool) (e : Ending) (w' : World) : Prop := e = .returned (.tuple #[.agg #[.int .i64 x.1, x.2.1, .int .i64 0], .bool x.2.2]) ∧ Below w.heap.size w w'
set_option maxRecDepth 100000 in
theorem first_nil (w : World) (A : Option Addr) (c : Nat) : Calls Try.prog 48 #[.slice A 0 c] w (FsPost w (0, .slice none 0 0, false)) := by
  go_enter Try.func48, Try.ntmps48
  go_wp2
  have hx := Bx.new w 104 [.int .i64 0, .slice none 0 0, .int .i64 0] (by simp)
  have x0 := hx.c 0 _ rfl
  have x1 := hx.c 1 _ rfl
  have x2 := hx.c 2 _ rfl
  clear hx
  refine bodyPost_ret (results_dp rfl _ _ _ _ _ _ rfl x0 x1 x2) rfl ?_
  exact ⟨rfl, (Below.refl w.heap.size w).alloc (Nat.le_refl _) _⟩
set_option maxRecDepth 100000 in
theorem first_cons {w : World} {g o n c : Nat} {x : Tp} (hn : 0 < n) (hv : SlB w x.2.2 x.2.1) (h0 : w.cell? ⟨g, o, none⟩ = some (.int .i64 (x.1 : Nat))) (h1 : w.cell? ⟨g, o + 1, none⟩ = some x.2.2) (h2 : w.cell? ⟨g, o + 2, none⟩ = some (.int .i64 0)) :
    Calls Try.prog 48 #[.slice (some ⟨g, o, none⟩) n c] w (FsPost w (x.1, x.2.2, true)) := by
  obtain ⟨key, b, v⟩ := x
  obtain ⟨Av, nv, cv, hx, _⟩ := hv
  simp only at hx h0 h1 h2 ⊢
  subst hx
  have lg := lt_of_cell h0
  go_enter Try.func48, Try.ntmps48
  go_wp2
  have hx := Bx.new w 104 [.int .i64 (key : Nat), .slice Av nv cv, .int .i64 0] (by simp)
  have x0 := hx.c 0 _ rfl
  have x1 := hx.c 1 _ rfl
  have x2 := hx.c 2 _ rfl
  clear hx
  refine bodyPost_ret (results_dp rfl _ _ _ _ _ _ rfl x0 x1 x2) rfl ?_
  exact ⟨rfl, (Below.refl w.heap.size w).alloc (Nat.le_refl _) _⟩
end Go.Proofs.Ytgkdggidgaifhaa
namespace Go.Proofs.Ytgkdggidgaifhaa
open Go.RowKit
set_option linter.unusedVariables false
set_option linter.unusedSimpArgs false

/-- A change: a key, what it had, what it has. -/
abbrev Chg := Nat × Option Bytes × Option Bytes
def mergeN : Nat → List (Nat × Bytes) → List (Nat × Bytes) → List Chg
  | 0, _, _ => []
  | _ + 1, [], [] => []
  | n + 1, x :: l, [] => (x.1, some x.2, none) :: mergeN n l []
  | n + 1, [], y :: r => (y.1, none, some y.2) :: mergeN n [] r
  | n + 1, x :: l, y :: r => if x.1 < y.1 then (x.1, some x.2, none) :: mergeN n l (y :: r) else if y.1 < x.1 then (y.1, none, some y.2) :: mergeN n (x :: l) r else if x.2 = y.2 then mergeN n l r else (x.1, some x.2, some y.2) :: mergeN n l r
def foldE {α ε : Type} (f : α → ε → α × Bool) : α → List ε → α × Bool
  | a, [] => (a, true)
  | a, e :: es => if (f a e).2 then foldE f (f a e).1 es else ((f a e).1, false)
/-- What a function that changes are told to is handed. -/
def argC (w : World) (O : Nat → Prop) (c : Chg) (vs : Array Value) : Prop := ∃ v1 v2, vs = #[.agg #[.int .i64 (c.1 : Nat), v1, v2, .bool c.2.1.isSome, .bool c.2.2.isSome]] ∧ c.1 < 16777216 ∧ SlB w v1 (c.2.1.getD []) ∧ SlB w v2 (c.2.2.getD []) ∧ (c.2.1.getD []).length ≤ 256 ∧ (c.2.2.getD []).length ≤ 256 ∧ VIn (fun b => ¬ O b) v1 ∧ VIn (fun b => ¬ O b) v2 ∧ ∀ k, vblk v1 k → ¬ vblk v2 k
def ownC (vs : Array Value) (k : Nat) : Prop := ∃ x v1 v2 y z, vs = #[.agg #[x, v1, v2, y, z]] ∧ (vblk v1 k ∨ vblk v2 k)
theorem argC_own {w : World} {O : Nat → Prop} {e : Chg} {vs : Array Value} {k : Nat} (h : argC w O e vs) (hk : ownC vs k) : ¬ O k := by
  obtain ⟨v1, v2, rfl, _, _, _, _, _, h1, h2, _⟩ := h
  obtain ⟨x, v1', v2', y, z, e, hk⟩ := hk
  simp only [Array.mk.injEq, List.cons.injEq, Value.agg.injEq] at e
  obtain ⟨⟨_, rfl, rfl, _⟩, _⟩ := e
  exact hk.elim h1.blk h2.blk
theorem argC_off {S O O1 : Nat → Prop} {w w' : World} {e : Chg} {vs : Array Value} (h : argC w O e vs) (ho : Off S w w') (hs : ∀ k, S k → O k) (h1 : ∀ k, O1 k → O k) : argC w' O1 e vs := by
  obtain ⟨v1, v2, rfl, hk, a1, a2, l1, l2, b1, b2, d⟩ := h
  exact ⟨v1, v2, rfl, hk, a1.offP ho (b1.mono fun b hb e => hb (hs b e)), a2.offP ho (b2.mono fun b hb e => hb (hs b e)), l1, l2, b1.mono fun b hb e => hb (h1 b e), b2.mono fun b hb e => hb (h1 b e), d⟩
/-- What changes are told to. -/
structure CbC {α : Type} (f : α → Chg → α × Bool) where
  fv : Value
  Iv : World → (Nat → Prop) → α → Prop
  Rdy : α → Nat → Prop
  mono : ∀ a n m, Rdy a n → m ≤ n → Rdy a m
  step : ∀ a e n, Rdy a (n + 1) → (f a e).2 = true → Rdy (f a e).1 n
  off : ∀ {S O : Nat → Prop} {w w' : World} {a : α}, Iv w O a → Off S w w' → (∀ k, S k → ¬ O k) → Iv w' O a
  lt : ∀ {O : Nat → Prop} {w : World} {a : α} {k : Nat}, Iv w O a → O k → k < w.heap.size
  kind : (∃ gf lb, fv = .func (.func gf) #[] lb ∧ (∀ (args : Array Value) (w : World), (callFunc gf args).run Try.prog w = .ok (.enter gf args) w) ∧ ∀ {w : World} {O : Nat → Prop} {a : α} {e : Chg} {vs : Array Value}, Iv w O a → Rdy a 1 → argC w O e vs → Calls Try.prog gf (vs ++ lb) w (VsG Iv (ownC vs) w O (f a e))) ∨
    (∃ l, fv = .func (.yield l) #[] #[] ∧ ∀ {w : World} {O : Nat → Prop} {a : α} {e : Chg} {vs : Array Value}, Iv w O a → Rdy a 1 → argC w O e vs → YieldAt Fence.wide 8 Try.prog l vs w (VsG Iv (ownC vs) w O (f a e)))
theorem lsO_tail {g o : Nat} {x : Tp} {L : List Tp} {k : Nat} (h : lsO (some ⟨g, o + 3, none⟩) L k) : lsO (some ⟨g, o, none⟩) (x :: L) k := by
  rcases h with ⟨hp, o', e⟩ | ⟨y, hy, hk⟩
  · cases e
    exact .inl ⟨by simp, o, rfl⟩
  · exact .inr ⟨y, List.mem_cons_of_mem _ hy, hk⟩
theorem LsAt.tail {w : World} {g o : Nat} {x : Tp} {L : List Tp} (h : LsAt w (some ⟨g, o, none⟩) (x :: L)) : LsAt w (some ⟨g, o + 3, none⟩) L := by
  obtain ⟨g', o', e, hg, hn, hc⟩ := h.at_ (by simp)
  cases e
  refine ⟨⟨fun y hy => h.ok.vals y (List.mem_cons_of_mem _ hy), (List.pairwise_cons.1 h.ok.apart).2⟩, fun hp => ⟨g, o + 3, rfl, hg, fun ⟨y, hy, hk⟩ => hn ⟨y, List.mem_cons_of_mem _ hy, hk⟩, fun i y hy => ?_⟩⟩
  have := hc (i + 1) y (by simpa using hy)
  rw [show o + (i + 1) * 3 = o + 3 + i * 3 by omega] at this
  exact this
theorem LsAt.head {w : World} {A : Option Addr} {x : Tp} {L : List Tp} (h : LsAt w A (x :: L)) : ∃ g o, A = some ⟨g, o, none⟩ ∧ w.cell? ⟨g, o, none⟩ = some (.int .i64 (x.1 : Nat)) ∧ w.cell? ⟨g, o + 1, none⟩ = some x.2.2 ∧ w.cell? ⟨g, o + 2, none⟩ = some (.int .i64 0) ∧ SlB w x.2.2 x.2.1 ∧ x.1 < 16777216 ∧ x.2.1.length ≤ 256 ∧
    (∀ k, vblk x.2.2 k → lsO A (x :: L) k) ∧ ∀ k, vblk x.2.2 k → ¬ lsO (some ⟨g, o + 3, none⟩) L k := by
  obtain ⟨g, o, rfl, hg, hn, hc⟩ := h.at_ (by simp)
  have c := hc 0 x rfl
  simp only [Nat.zero_mul, Nat.add_zero] at c
  obtain ⟨h1, h2, h3⟩ := h.ok.vals x (by simp)
  refine ⟨g, o, rfl, c.1, c.2.1, c.2.2, h1, h2, h3, fun k hk => .inr ⟨x, by simp, hk⟩, fun k hk e => ?_⟩
  rcases e with ⟨hp, o', e⟩ | ⟨y, hy, hk2⟩
  · cases e
    exact hn ⟨x, by simp, hk⟩
  · exact (List.pairwise_cons.1 h.ok.apart).1 y hy k hk hk2
/-- The loop's world. -/
structure ChIv {α σ : Type} {f : α → Chg → α × Bool} {K : SnkF σ} (C : CbC f) (M : Snk K) (w0 W : World) (T : Nat) (O Ov Ov' : Nat → Prop) (s : σ) (p : Int) (A1 A2 : Option Addr) (L R : List Tp) (a : α) : Prop where
  iv : C.Iv W Ov' a
  tr : TrAt M W T O s p
  l : LsAt W A1 L
  r : LsAt W A2 R
  dLR : ∀ k, lsO A1 L k → ¬ lsO A2 R k
  dL : ∀ k, lsO A1 L k → ¬ Ov' k ∧ w0.heap.size ≤ k
  dR : ∀ k, lsO A2 R k → ¬ Ov' k ∧ w0.heap.size ≤ k
  dO : ∀ k, O k → ¬ Ov' k
  dT : ¬ Ov' T
  off : Off (fun k => O k ∨ Ov k) w0 W
  gr : ∀ k, Ov' k → Ov k ∨ w0.heap.size ≤ k
section
variable {α σ : Type} {f : α → Chg → α × Bool} {K : SnkF σ} {C : CbC f} {M : Snk K} {w0 W W' : World} {T : Nat} {O Ov Ov' : Nat → Prop} {s : σ} {p : Int} {A1 A2 : Option Addr} {L R : List Tp} {a : α}
theorem ChIv.up (h : ChIv C M w0 W T O Ov Ov' s p A1 A2 L R a) (hb : Below W.heap.size W W') : ChIv C M w0 W' T O Ov Ov' s p A1 A2 L R a :=
  ⟨C.off h.iv (Off.of_below (S := fun _ => False) hb) (fun _ => False.elim), h.tr.up hb, h.l.off (S := fun _ => False) (Off.of_below hb) (fun _ => False.elim), h.r.off (S := fun _ => False) (Off.of_below hb) (fun _ => False.elim), h.dLR, h.dL, h.dR, h.dO, h.dT, h.off.step hb, h.gr⟩
/-- Parts of the lists alone are gone on with. -/
theorem ChIv.less {B1 B2 : Option Addr} {L' R' : List Tp} (h : ChIv C M w0 W T O Ov Ov' s p A1 A2 L R a) (hl : LsAt W B1 L') (hr : LsAt W B2 R') (el : ∀ k, lsO B1 L' k → lsO A1 L k) (er : ∀ k, lsO B2 R' k → lsO A2 R k) : ChIv C M w0 W T O Ov Ov' s p B1 B2 L' R' a :=
  ⟨h.iv, h.tr, hl, hr, fun k h1 h2 => h.dLR k (el k h1) (er k h2), fun k e => h.dL k (el k e), fun k e => h.dR k (er k e), h.dO, h.dT, h.off, h.gr⟩
/-- Behind a call of what the changes are told to. -/
theorem ChIv.call {own O2 : Nat → Prop} {a2 : α} (h : ChIv C M w0 W T O Ov Ov' s p A1 A2 L R a) (hi : C.Iv W' O2 a2) (ho : Off Ov' W W') (hg : ∀ k, O2 k → Ov' k ∨ own k ∨ W.heap.size ≤ k)
    (oL : ∀ k, own k → ¬ lsO A1 L k) (oR : ∀ k, own k → ¬ lsO A2 R k) (oO : ∀ k, own k → ¬ O k ∧ k ≠ T ∧ w0.heap.size ≤ k) : ChIv C M w0 W' T O Ov O2 s p A1 A2 L R a2 :=
  ⟨hi, h.tr.off ho (fun k e e2 => h.dO k e2 e) h.dT, h.l.off ho (fun k e e2 => (h.dL k e2).1 e), h.r.off ho (fun k e e2 => (h.dR k e2).1 e), h.dLR,
    fun k e => ⟨fun e2 => by
      rcases hg k e2 with e3 | e3 | e3
      · exact (h.dL k e).1 e3
      · exact oL k e3 e
      · have := h.l.lt e; omega, (h.dL k e).2⟩,
    fun k e => ⟨fun e2 => by
      rcases hg k e2 with e3 | e3 | e3
      · exact (h.dR k e).1 e3
      · exact oR k e3 e
      · have := h.r.lt e; omega, (h.dR k e).2⟩,
    fun k e e2 => by
      rcases hg k e2 with e3 | e3 | e3
      · exact h.dO k e e3
      · exact (oO k e3).1 e
      · have := M.lt h.tr.at_ e; omega,
    fun e2 => by
      rcases hg T e2 with e3 | e3 | e3
      · exact h.dT e3
      · exact (oO T e3).2.1 rfl
      · have := h.tr.lt; omega,
    h.off.late ho (fun i hl e => by
      rcases h.gr i e with e2 | e2
      · exact .inr e2
      · omega), fun k e => by
      have := h.off.size
      rcases hg k e with e3 | e3 | e3
      · exact h.gr k e3
      · exact .inr (oO k e3).2.2
      · exact .inr (by omega)⟩
theorem LsAt.tail2 {w : World} {g o : Nat} {x : Tp} {L : List Tp} {B : Option Addr} (h : LsAt w (some ⟨g, o, none⟩) (x :: L)) (hB : B = some ⟨g, o + 3, none⟩ ∨ L = []) : LsAt w B L ∧ (∀ k, lsO B L k → lsO (some ⟨g, o, none⟩) (x :: L) k) ∧ ∀ k, vblk x.2.2 k → ¬ lsO B L k := by
  rcases hB with rfl | rfl
  · obtain ⟨g', o', e, _, _, _, _, _, _, _, hn⟩ := h.head
    cases e
    exact ⟨h.tail, fun k e => lsO_tail e, hn⟩
  · have hno : ∀ k, ¬ lsO B [] k := fun k e => by
      rcases e with ⟨hp, _⟩ | ⟨y, hy, _⟩
      · simp at hp
      · simp at hy
    exact ⟨⟨⟨fun y hy => by simp at hy, .nil⟩, fun hp => by simp at hp⟩, fun k e => (hno k e).elim, fun k _ => hno k⟩
theorem LsAt.nilO {A : Option Addr} {k : Nat} : ¬ lsO A [] k := fun e => by
  rcases e with ⟨hp, _⟩ | ⟨y, hy, _⟩
  · simp at hp
  · simp at hy
/-- A round's change, and what is left of the lists. -/
structure ChSum (C : CbC f) (M : Snk K) (w0 W : World) (T : Nat) (O Ov Ov' : Nat → Prop) (s : σ) (p : Int) (L R : List Tp) (a : α) (n : Nat) (B1 B2 : Option Addr) (L1 R1 : List Tp) (kd : Int) (vc vd : Value) (t1 t2 : Bool) (ch : Chg) : Prop where
  k : kd = (ch.1 : Nat)
  q1 : t1 = ch.2.1.isSome
  q2 : t2 = ch.2.2.isSome
  nn : ch.2.1 = none → ch.2.2 ≠ none
  arg : argC W Ov' ch #[.agg #[.int .i64 kd, vc, vd, .bool t1, .bool t2]]
  iv : ChIv C M w0 W T O Ov Ov' s p B1 B2 L1 R1 a
  own : ∀ k, (vblk vc k ∨ vblk vd k) → ¬ lsO B1 L1 k ∧ ¬ lsO B2 R1 k ∧ w0.heap.size ≤ k
  le : L1.length + R1.length ≤ n
  lt : L1.length + R1.length < L.length + R.length
  lL : L1.length ≤ L.length
  lR : R1.length ≤ R.length
  eq : mergeN (n + 1) (tpP L) (tpP R) = if ch.2.1 = ch.2.2 then mergeN n (tpP L1) (tpP R1) else ch :: mergeN n (tpP L1) (tpP R1)
theorem vblk_nil {k : Nat} : ¬ vblk (.slice none 0 0) k := fun ⟨o, n, c, e, h⟩ => by cases e
theorem slB_nil0 (w : World) : SlB w (.slice none 0 0) [] := ⟨none, 0, 0, rfl, Nat.le_refl _, SBy.nil w none⟩
/-- Only the left list has something. -/
theorem ChIv.sumL {g o n : Nat} {x : Tp} {L' R' : List Tp} {B1 : Option Addr} (h : ChIv C M w0 W T O Ov Ov' s p (some ⟨g, o, none⟩) A2 (x :: L') R' a) (hn : (x :: L').length + R'.length ≤ n + 1) (hB : B1 = some ⟨g, o + 3, none⟩ ∨ L' = []) (hlt : ∀ y ∈ R'.head?, x.1 < y.1) :
    ChSum C M w0 W T O Ov Ov' s p (x :: L') R' a n B1 A2 L' R' (x.1 : Nat) x.2.2 (.slice none 0 0) true false (x.1, some x.2.1, none) := by
  obtain ⟨e1, e2, e3⟩ := h.l.tail2 hB
  obtain ⟨g', o', e, _, _, _, v1, v2, v3, v4, _⟩ := h.l.head
  refine ⟨rfl, rfl, rfl, by simp, ⟨_, _, rfl, v2, v1, slB_nil0 W, v3, by simp, .of_blk fun k hk => (h.dL k (v4 k hk)).1, .of_blk fun k hk => (vblk_nil hk).elim, fun k _ hk => vblk_nil hk⟩, h.less e1 h.r e2 (fun k e => e), fun k hk => ?_, by simp at hn; omega, by simp, by simp, Nat.le_refl _, ?_⟩
  · rcases hk with hk | hk
    · exact ⟨e3 k hk, h.dLR k (v4 k hk), (h.dL k (v4 k hk)).2⟩
    · exact (vblk_nil hk).elim
  · rw [if_neg (by simp)]
    cases R' with
    | nil => rfl
    | cons y R' =>
      show (if x.1 < y.1 then _ else _) = _
      rw [if_pos (hlt y rfl)]
      rfl
theorem ChIv.sumR {g o n : Nat} {y : Tp} {L' R' : List Tp} {B2 : Option Addr} (h : ChIv C M w0 W T O Ov Ov' s p A1 (some ⟨g, o, none⟩) L' (y :: R') a) (hn : L'.length + (y :: R').length ≤ n + 1) (hB : B2 = some ⟨g, o + 3, none⟩ ∨ R' = []) (hlt : ∀ x ∈ L'.head?, y.1 < x.1) :
    ChSum C M w0 W T O Ov Ov' s p L' (y :: R') a n A1 B2 L' R' (y.1 : Nat) (.slice none 0 0) y.2.2 false true (y.1, none, some y.2.1) := by
  obtain ⟨e1, e2, e3⟩ := h.r.tail2 hB
  obtain ⟨g', o', e, _, _, _, v1, v2, v3, v4, _⟩ := h.r.head
  refine ⟨rfl, rfl, rfl, by simp, ⟨_, _, rfl, v2, slB_nil0 W, v1, by simp, v3, .of_blk fun k hk => (vblk_nil hk).elim, .of_blk fun k hk => (h.dR k (v4 k hk)).1, fun k hk _ => vblk_nil hk⟩, h.less h.l e1 (fun k e => e) e2, fun k hk => ?_, by simp at hn; omega, by simp, Nat.le_refl _, by simp, ?_⟩
  · rcases hk with hk | hk
    · exact (vblk_nil hk).elim
    · exact ⟨fun e => h.dLR k e (v4 k hk), e3 k hk, (h.dR k (v4 k hk)).2⟩
  · rw [if_neg (by simp)]
    cases L' with
    | nil => rfl
    | cons x L' =>
      show (if x.1 < y.1 then _ else if y.1 < x.1 then _ else _) = _
      have := hlt x rfl
      rw [if_neg (by omega), if_pos this]
      rfl
theorem ChIv.sumB {g o g' o' n : Nat} {x y : Tp} {L' R' : List Tp} {B1 B2 : Option Addr} (h : ChIv C M w0 W T O Ov Ov' s p (some ⟨g, o, none⟩) (some ⟨g', o', none⟩) (x :: L') (y :: R') a) (hn : (x :: L').length + (y :: R').length ≤ n + 1) (hB : B1 = some ⟨g, o + 3, none⟩ ∨ L' = []) (hB2 : B2 = some ⟨g', o' + 3, none⟩ ∨ R' = []) (he : x.1 = y.1) :
    ChSum C M w0 W T O Ov Ov' s p (x :: L') (y :: R') a n B1 B2 L' R' (y.1 : Nat) x.2.2 y.2.2 true true (y.1, some x.2.1, some y.2.1) := by
  obtain ⟨e1, e2, e3⟩ := h.l.tail2 hB
  obtain ⟨f1, f2, f3⟩ := h.r.tail2 hB2
  obtain ⟨_, _, e, _, _, _, v1, v2, v3, v4, _⟩ := h.l.head
  obtain ⟨_, _, e, _, _, _, u1, u2, u3, u4, _⟩ := h.r.head
  refine ⟨rfl, rfl, rfl, by simp, ⟨_, _, rfl, u2, v1, u1, v3, u3, .of_blk fun k hk => (h.dL k (v4 k hk)).1, .of_blk fun k hk => (h.dR k (u4 k hk)).1, fun k hk hk2 => h.dLR k (v4 k hk) (u4 k hk2)⟩, h.less e1 f1 e2 f2, fun k hk => ?_, by simp at hn; omega, by simp; omega, by simp, by simp, ?_⟩
  · rcases hk with hk | hk
    · exact ⟨e3 k hk, fun e => h.dLR k (v4 k hk) (f2 k e), (h.dL k (v4 k hk)).2⟩
    · exact ⟨fun e => h.dLR k (e2 k e) (u4 k hk), f3 k hk, (h.dR k (u4 k hk)).2⟩
  · show (if x.1 < y.1 then _ else if y.1 < x.1 then _ else if x.2.1 = y.2.1 then _ else _) = _
    rw [if_neg (by omega), if_neg (by omega)]
    by_cases hv : x.2.1 = y.2.1
    · rw [if_pos hv, if_pos (by rw [hv])]
      rfl
    · rw [if_neg hv, if_neg (fun e => hv (by simpa using e)), he]
      rfl
end
end Go.Proofs.Ytgkdggidgaifhaa
