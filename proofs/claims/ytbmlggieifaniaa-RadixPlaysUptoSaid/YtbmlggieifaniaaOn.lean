/- radix: Check. -/
import Derived.Test.YtbmlggieifaniaaOm
namespace Go.Proofs.Ytbmlggieifaniaa
open Go.RowKit
set_option linter.unusedVariables false
set_option linter.unusedSimpArgs false

def chkF : Int → Nat → Bytes → Int × Bool := fun a _ _ => (inc64 a, true)
def chkC (B : Nat) : Pcb chkF where
  gf := 29
  lb := #[.pointer (some ⟨B, 0, none⟩)]
  ent := ent_fn Try.func29 (by kernel_rfl) rfl
  Iv := fun w O a => w.cell? ⟨B, 0, none⟩ = some (.int .i64 a) ∧ w.frozen? ⟨B, 0, none⟩ = false ∧ ∀ k, O k ↔ k = B
  Rdy := fun _ _ => True
  mono := fun _ _ _ _ _ => trivial
  step := fun _ _ _ _ _ _ => trivial
  off := fun {S O w w' a} h ho hs => ⟨(ho.cell (p := ⟨B, 0, none⟩) (lt_of_cell h.1) (fun e => hs B e ((h.2.2 B).2 rfl))).trans h.1, (ho.frozen (p := ⟨B, 0, none⟩) (lt_of_cell h.1) (fun e => hs B e ((h.2.2 B).2 rfl))).trans h.2.1, h.2.2⟩
  lt := fun {O w a k} h hk => by rw [(h.2.2 k).1 hk]; exact lt_of_cell h.1
  call := fun {w O a key v L} h _ _ _ _ _ => by
    obtain ⟨c0, f0, hO⟩ := h
    have HO := Lib.hid hO
    have lB := lt_of_cell c0
    clear hO
    go_enter Try.func29, Try.ntmps29
    go_wp2
    go_ret
    refine ⟨(· = B), rfl, ⟨World.cell?_setCell_same _ _ _ c0, (World.frozen?_setCell _ _ _ _).trans f0, fun k => Iff.rfl⟩, ?_, fun k e => .inl ((HO.out k).2 e)⟩
    exact ((Off.refl (· = B) w).setCell (p := ⟨B, 0, none⟩) rfl _).mono fun k e => (HO.out k).2 e
def ChPost {σ : Type} {K : SnkF σ} (M : Snk K) (w : World) (T : Nat) (O : Nat → Prop) (p : Int) (y : WkSt σ Int × Bool × Int) (e : Ending) (w' : World) : Prop :=
  e = .returned (.tuple #[.int .i64 (if y.2.2 = 0 then y.1.2.2 else 0), .int .i64 y.2.2]) ∧ TrAt M w' T O y.1.1 p ∧ Off O w w'
set_option maxRecDepth 100000 in
set_option maxHeartbeats 2000000 in
theorem check_any {σ : Type} {K : SnkF σ} {M : Snk K} (hK : K.Good) {w : World} {T : Nat} {O : Nat → Prop} {s : σ} {p : Int} (h : TrAt M w T O s p) (hr : K.Rdy s 0) (r : Int × Int) :
    Calls Try.prog 19 #[.pointer (some ⟨T, 0, none⟩), addrV r] w (ChPost M w T O p (walkF K (pairsC chkF) 7 (s, 1048576, 0) r 0 0)) := by
  obtain ⟨ra, rb⟩ := r
  have H := Lib.hid h
  have lT := h.lt
  have HOL := Lib.hid (fun k hk => M.lt h.at_ (k := k) hk)
  clear h
  unfold addrV
  go_enter Try.func19, Try.ntmps19
  go_upto_region 2 with (fail)
  refine wp_forget (fun W => Below w.heap.size w W ∧ BoxA W w.heap.size (ra, rb) ∧ W.cell? ⟨w.heap.size + 1, 0, none⟩ = some (.int .i64 0) ∧ W.frozen? ⟨w.heap.size + 1, 0, none⟩ = false ∧ W.heap.size = w.heap.size + 2) ?_ ?_
  · have b1 : Below w.heap.size w (w.alloc (.cells #[.int .i64 ra, .int .i64 rb] 32)) := (Below.refl _ _).alloc (Nat.le_refl _) _
    have x1 := BoxA.new w 32 (ra, rb)
    have s1 : (w.alloc (.cells #[.int .i64 ra, .int .i64 rb] 32)).heap.size = w.heap.size + 1 := by simp
    simp only at x1
    generalize w.alloc (.cells #[.int .i64 ra, .int .i64 rb] 32) = W1 at *
    have b2 : Below W1.heap.size W1 (W1.alloc (.cells #[.int .i64 0] 3)) := (Below.refl _ _).alloc (Nat.le_refl _) _
    have c2 := alloc_at W1 (.int .i64 0) 3
    rw [s1] at c2
    exact ⟨b1.trans (b2.mono (by omega)), x1.off (S := fun _ => False) (Off.of_below b2) id, c2.1, c2.2, by simp [s1]⟩
  rintro W0 ⟨hb0, hx, c1, f1, hs⟩
  have b0 := hx.1
  have b1 := hx.2.1
  have lx := hx.lt
  simp only at b0 b1
  have HP : Hid (Calls Try.prog 28 #[.pointer (some ⟨T, 0, none⟩), .agg #[.int .i64 ra, .int .i64 rb], .func (.func 29) #[] #[.pointer (some ⟨w.heap.size + 1, 0, none⟩)]] W0 (PsPost M (chkC (w.heap.size + 1)) W0 T O (· = w.heap.size + 1) p (walkF K (pairsC chkF) 7 (s, 1048576, 0) (ra, rb) 0 0))) := Lib.hid (pairs_any hK (chkC (w.heap.size + 1)) (H.out.up hb0) (Ov := (· = w.heap.size + 1)) (a := (0 : Int)) ⟨c1, f1, fun k => Iff.rfl⟩ hr trivial (fun k hk e => by have := HOL.out k hk; omega) (by omega) (ra, rb))
  have HB0 := Lib.hid hb0
  obtain ⟨y, hy⟩ : ∃ y, walkF K (pairsC chkF) 7 (s, 1048576, 0) (ra, rb) 0 0 = y := ⟨_, rfl⟩
  have HY := Lib.hid hy
  rw [hy] at HP
  clear hb0 hx c1 f1 hy
  go_wp2_with fail
  refine HP.out.mono ?_
  rintro e W9 ⟨Ov9, rfl, htr, ⟨c9, f9, hO9⟩, hof, hOv⟩
  have HT := Lib.hid htr
  have HF := Lib.hid (((Off.of_below HB0.out).mono (S' := O) (fun _ => False.elim)).late hof fun i hl hi => hi.elim id (fun e => by omega))
  have hn9 : Ov9 (w.heap.size + 1) := (hO9 _).2 rfl
  obtain ⟨⟨s9, left9, a9⟩, more9, er9⟩ := y
  simp only at c9 HT HY
  have l9 := lt_of_cell c9
  clear htr hof HP b0 b1 hO9 hOv hn9
  by_cases he : er9 = 0
  · subst he
    go_wp2
    go_ret2
    rw [HY.out]
    exact ⟨rfl, HT.out, HF.out⟩
  · have hb : (er9 != 0) = true := by simp [he]
    have HE := Lib.hid he
    clear he
    go_wp2
    go_ret2
    rw [HY.out]
    exact ⟨by simp only [HE.out, if_false]; rfl, HT.out, HF.out⟩
end Go.Proofs.Ytbmlggieifaniaa
