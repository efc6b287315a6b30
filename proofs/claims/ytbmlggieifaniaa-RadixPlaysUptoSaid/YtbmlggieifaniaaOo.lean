/- radix: All: the sequence of a root's pairs. -/
import Derived.Test.YtbmlggieifaniaaOn
import Derived.RangeFuncWrites
import Derived.RangeFuncNested
import Derived.RangeFuncBound
import Derived.RangeFuncCalls
import Derived.RangeFuncLeaves
import Derived.Shelf.Abstract
import Derived.Shelf.RegionOpen
import Derived.OwnWalkIn
import Derived.TacticsInMore
import Derived.LoopNIn
import Derived.LoopIn
import Derived.Stop.RegionWithIn
namespace Go.Proofs.Ytbmlggieifaniaa
open Go.RowKit
set_option linter.unusedVariables false
set_option linter.unusedSimpArgs false

/-- What is ranged over the pairs: a loop's rounds, its own state, its own blocks. -/
structure Yld {α : Type} (f : α → Nat → Bytes → α × Bool) where
  l : Nat
  Iv : World → (Nat → Prop) → α → Prop
  Rdy : α → Nat → Prop
  mono : ∀ a n m, Rdy a n → m ≤ n → Rdy a m
  step : ∀ a k v n, Rdy a (n + 1) → (f a k v).2 = true → Rdy (f a k v).1 n
  off : ∀ {S O : Nat → Prop} {w w' : World} {a : α}, Iv w O a → Off S w w' → (∀ k, S k → ¬ O k) → Iv w' O a
  lt : ∀ {O : Nat → Prop} {w : World} {a : α} {k : Nat}, Iv w O a → O k → k < w.heap.size
  call : ∀ {w : World} {O : Nat → Prop} {a : α} {key : Nat} {v : Value} {L : Bytes}, Iv w O a → Rdy a 1 → key < 16777216 → SlB w v L → L.length ≤ 256 → VIn (fun b => ¬ O b) v →
    YieldAt Fence.wide 8 Try.prog l #[.int .i64 (key : Nat), v] w (VsPost Iv w O (f a key L))
section
variable {α : Type} {f : α → Nat → Bytes → α × Bool}
set_option maxRecDepth 100000 in
set_option maxHeartbeats 4000000 in
theorem all11_any (Y : Yld f) {w : World} {B : Nat} {O : Nat → Prop} {a : α} {key : Nat} {v : Value} {L : Bytes} (hi : Y.Iv w O a) (hB : w.cell? ⟨B, 0, none⟩ = some (.func (.yield Y.l) #[] #[])) (hr : Y.Rdy a 1) (hk : key < 16777216) (hv : SlB w v L) (hL : L.length ≤ 256) :
    Calls Try.prog 31 #[.int .i64 (key : Nat), v, .pointer (some ⟨B, 0, none⟩)] w (VsPost Y.Iv w O (f a key L)) := by
  obtain ⟨A, n, c, rfl, hnc, hs⟩ := hv
  have hn := hs.1
  have HC : Hid (∀ w', Below w.heap.size w w' → CallsIn Fence.wide 8 Try.prog 32 #[.slice A n c] w' fun e w2 => ∃ A' c', e = .returned (.slice A' n c') ∧ FrB w' w2 (.slice A' n c') L) := Lib.hid fun w' hb => callsIn_wide.2 ((clone_any w' A n c L (hs.up hb) (by omega)).mono fun e w2 ⟨A', c', he, hf, _⟩ => ⟨A', c', he, hf⟩)
  have HY : Hid (∀ (w' : World) (A' : Option Addr) (c' : Nat), Below w.heap.size w w' → SlB w' (.slice A' n c') L → VIn (fun b => w.heap.size ≤ b) (.slice A' n c') → YieldAt Fence.wide 8 Try.prog Y.l #[.int .i64 (key : Nat), .slice A' n c'] w' (VsPost Y.Iv w O (f a key L))) := Lib.hid fun w' A' c' hb hs' hv' => by
    have hi' := Y.off hi (Off.of_below (S := fun _ => False) hb) (fun _ => False.elim)
    have h1 := Y.call (key := key) hi' hr hk hs' hL (hv'.mono fun b hb2 e => by have := Y.lt hi e; omega)
    exact h1.mono fun e w2 ⟨O', he, hi2, ho2, hO2⟩ => ⟨O', he, hi2, ((Off.of_below hb).mono (S' := O) (fun _ => False.elim)).trans ho2, fun k hk => (hO2 k hk).imp id (Nat.le_trans hb.size)⟩
  have lB := lt_of_cell hB
  clear hi hs
  refine (callsIn_wide (n := 9)).1 ?_
  refine callsIn_of_wp Try.func31 rfl trivial ?_ rfl
  simp only [Try.ntmps31, List.size_toArray, List.length_cons, List.length_nil, Nat.reduceAdd, Nat.reduceSub, Array.replicate_succ, Array.replicate_zero, List.push_toArray, List.append_toArray, List.nil_append, List.cons_append]
  gi_wp2
  gi_region_with (first
    | (refine ⟨trivial, ?_⟩; gi_at_call 32; go_loud (refine (HC.out _ (Below.refl _ _).drew).mono ?_; rintro e w2 ⟨A', c', rfl, hf⟩; have hb2 := (Below.refl w.heap.size w).drew.trans (hf.bel.mono (by simp)); have cB2 := (hb2.cell (p := ⟨B, 0, none⟩) lB).trans hB; have hfs := hf.slA; obtain ⟨fn, tmps, assign, body, hy, hR⟩ := HY.out w2 A' c' hb2 hfs.1.slB (fun b o n c e _ => hfs.2 b o n c e); (try dsimp only at hy); have HR := Lib.hid hR; clear hR hf hfs hb2))
    | (go_simp; (with_reducible refine HR.out.mono ?_); rintro e w3 ⟨O', rfl, hi3, ho3, hO3⟩; have H3 := Lib.hid (show Y.Iv w3 O' (f a key L).1 ∧ Off O w w3 ∧ ∀ k, O' k → O k ∨ w.heap.size ≤ k from ⟨hi3, ho3, hO3⟩); clear hi3 ho3 hO3))
  all_goals
    gi_wp2
    go_ret
    exact ⟨O', rfl, H3.out.1, H3.out.2.1, H3.out.2.2⟩
/-- What All's sequence hands to Pairs. -/
def pcbY (Y : Yld f) (B : Nat) : Pcb f where
  gf := 31
  lb := #[.pointer (some ⟨B, 0, none⟩)]
  ent := ent_fn Try.func31 (by kernel_rfl) rfl
  Iv := fun w O a => ∃ O1 : Nat → Prop, Y.Iv w O1 a ∧ w.cell? ⟨B, 0, none⟩ = some (.func (.yield Y.l) #[] #[]) ∧ ¬ O1 B ∧ ∀ k, O k ↔ O1 k ∨ k = B
  Rdy := Y.Rdy
  mono := Y.mono
  step := Y.step
  off := fun {S O w w' a} h ho hs => by
    obtain ⟨O1, h1, h2, h3, h4⟩ := h
    exact ⟨O1, Y.off h1 ho (fun k e e2 => hs k e ((h4 k).2 (.inl e2))), (ho.cell (p := ⟨B, 0, none⟩) (lt_of_cell h2) (fun e => hs B e ((h4 B).2 (.inr rfl)))).trans h2, h3, h4⟩
  lt := fun {O w a k} h hk => by
    obtain ⟨O1, h1, h2, h3, h4⟩ := h
    rcases (h4 k).1 hk with e | e
    · exact Y.lt h1 e
    · rw [e]; exact lt_of_cell h2
  call := fun {w O a key v L} h hr hk hs hL hv => by
    obtain ⟨O1, h1, h2, h3, h4⟩ := h
    refine (all11_any Y h1 h2 hr hk hs hL).mono ?_
    rintro e w' ⟨O2, he, hi, ho, hO⟩
    have hB := lt_of_cell h2
    refine ⟨fun k => O2 k ∨ k = B, he, ⟨O2, hi, (ho.cell (p := ⟨B, 0, none⟩) hB h3).trans h2, fun e => ?_, fun k => Iff.rfl⟩, ho.mono fun k e => (h4 k).2 (.inl e), fun k e => e.elim (fun e => (hO k e).imp (fun e => (h4 k).2 (.inl e)) id) (fun e => .inl ((h4 k).2 (.inr e)))⟩
    rcases hO B e with e | e
    · exact h3 e
    · omega
/-- The sequence has come to its end. -/
def SqPost {σ : Type} {K : SnkF σ} (M : Snk K) (Y : Yld f) (w : World) (T : Nat) (O Ov : Nat → Prop) (p : Int) (y : WkSt σ α × Bool × Int) (e : Ending) (w' : World) : Prop :=
  ∃ Ov' : Nat → Prop, (∃ v, e = .returned v) ∧ TrAt M w' T O y.1.1 p ∧ Y.Iv w' Ov' y.1.2.2 ∧ Off (fun k => O k ∨ Ov k) w w' ∧ ∀ k, Ov' k → Ov k ∨ w.heap.size ≤ k
set_option maxRecDepth 100000 in
set_option maxHeartbeats 2000000 in
theorem all1_any {σ : Type} {K : SnkF σ} {M : Snk K} (hK : K.Good) (Y : Yld f) {w : World} {T B2 B3 : Nat} {O Ov : Nat → Prop} {s : σ} {p : Int} {a : α} {r : Int × Int} (h : TrAt M w T O s p) (hi : Y.Iv w Ov a) (hr : K.Rdy s 0) (hc : Y.Rdy a 16777216) (d1 : ∀ k, O k → ¬ Ov k) (d2 : ¬ Ov T)
    (c2 : w.cell? ⟨B2, 0, none⟩ = some (.pointer (some ⟨T, 0, none⟩))) (c3 : w.cell? ⟨B3, 0, none⟩ = some (.int .i64 r.1)) (c4 : w.cell? ⟨B3, 1, none⟩ = some (.int .i64 r.2)) :
    Calls Try.prog 30 #[.func (.yield Y.l) #[] #[], .pointer (some ⟨B2, 0, none⟩), .pointer (some ⟨B3, 0, none⟩)] w (SqPost M Y w T O Ov p (walkF K (pairsC f) 7 (s, 1048576, a) r 0 0)) := by
  obtain ⟨ra, rb⟩ := r
  have H := Lib.hid h
  have HI := Lib.hid hi
  have HC := Lib.hid hc
  have HOL := Lib.hid (fun k hk => M.lt h.at_ (k := k) hk)
  have HVL := Lib.hid (fun k hk => Y.lt hi (k := k) hk)
  have hT := h.lt
  have l2 := lt_of_cell c2
  have l3 := lt_of_cell c3
  simp only at c3 c4
  clear h hi hc
  go_enter Try.func30, Try.ntmps30
  go_upto_region 1 with (fail)
  have hb := (Below.refl w.heap.size w).alloc (Nat.le_refl _) (.cells #[.func (.yield Y.l) #[] #[]] 80)
  have cB := (alloc_at w (.func (.yield Y.l) #[] #[]) 80).1
  refine wp_forget (fun W => Below w.heap.size w W ∧ W.cell? ⟨w.heap.size, 0, none⟩ = some (.func (.yield Y.l) #[] #[])) ⟨hb, cB⟩ ?_
  clear hb cB
  rintro W0 ⟨hb, cB⟩
  have e2 := (hb.cell (p := ⟨B2, 0, none⟩) l2).trans c2
  have e3 := (hb.cell (p := ⟨B3, 0, none⟩) l3).trans c3
  have e4 := (hb.cell (p := ⟨B3, 1, none⟩) l3).trans c4
  have l2' := lt_of_cell e2
  have l3' := lt_of_cell e3
  have HP : Hid (Calls Try.prog 28 #[.pointer (some ⟨T, 0, none⟩), .agg #[.int .i64 ra, .int .i64 rb], .func (.func 31) #[] #[.pointer (some ⟨w.heap.size, 0, none⟩)]] W0 (PsPost M (pcbY Y w.heap.size) W0 T O (fun k => Ov k ∨ k = w.heap.size) p (walkF K (pairsC f) 7 (s, 1048576, a) (ra, rb) 0 0))) := Lib.hid
    (pairs_any hK (pcbY Y w.heap.size) (H.out.up hb) (a := a) ⟨Ov, Y.off HI.out (Off.of_below (S := fun _ => False) hb) (fun _ => False.elim), cB, fun e => by have := HVL.out _ e; omega, fun k => Iff.rfl⟩ hr HC.out
      (fun k hk e => e.elim (d1 k hk) (fun e => by have := HOL.out k hk; omega)) (fun e => e.elim d2 (fun e => by omega)) (ra, rb))
  have HB := Lib.hid hb
  generalize walkF K (pairsC f) 7 (s, 1048576, a) (ra, rb) 0 0 = y at *
  clear hb c2 c3 c4 cB
  go_wp2_with fail
  refine HP.out.mono ?_
  rintro e W9 ⟨Ov9, rfl, htr, ⟨O1, i1, i2, i3, i4⟩, hof, hO9⟩
  have HF : Hid (Off (fun k => O k ∨ Ov k) w W9) := Lib.hid (((Off.of_below HB.out).mono (fun _ => False.elim)).late hof fun i hl hi => by
    rcases hi with e | e | e
    · exact .inl e
    · exact .inr e
    · omega)
  have HT := Lib.hid htr
  have HI1 := Lib.hid i1
  have HO1 : Hid (∀ k, O1 k → Ov k ∨ w.heap.size ≤ k) := Lib.hid fun k e => by
    have := HB.out.size
    rcases hO9 k ((i4 k).2 (.inl e)) with (e2 | e2) | e2
    · exact .inl e2
    · exact .inr (by omega)
    · exact .inr (by omega)
  clear htr i1 i2 i3 i4 hof hO9 HP
  go_wp2
  go_end0
  exact ⟨O1, ⟨_, rfl⟩, HT.out, HI1.out, HF.out, HO1.out⟩
def AlPost (w : World) (T : Nat) (r : Int × Int) (e : Ending) (w' : World) : Prop :=
  e = .returned (.func (.func 30) #[] #[.pointer (some ⟨w.heap.size, 0, none⟩), .pointer (some ⟨w.heap.size + 1, 0, none⟩)]) ∧ Below w.heap.size w w' ∧ w'.heap.size = w.heap.size + 2 ∧ w'.cell? ⟨w.heap.size, 0, none⟩ = some (.pointer (some ⟨T, 0, none⟩)) ∧ BoxA w' (w.heap.size + 1) r
theorem all_any (w : World) (T : Nat) (r : Int × Int) : Calls Try.prog 20 #[.pointer (some ⟨T, 0, none⟩), addrV r] w (AlPost w T r) := by
  obtain ⟨ra, rb⟩ := r
  unfold addrV
  go_enter Try.func20, Try.ntmps20
  go_wp2
  go_ret
  have b1 := (Below.refl w.heap.size w).alloc (Nat.le_refl _) (.cells #[.pointer (some ⟨T, 0, none⟩)] 28)
  have c1 := (alloc_at w (.pointer (some ⟨T, 0, none⟩)) 28).1
  have s1 : (w.alloc (.cells #[.pointer (some ⟨T, 0, none⟩)] 28)).heap.size = w.heap.size + 1 := by simp
  generalize w.alloc (.cells #[.pointer (some ⟨T, 0, none⟩)] 28) = W1 at *
  have b2 : Below W1.heap.size W1 (W1.alloc (.cells #[.int .i64 ra, .int .i64 rb] 32)) := (Below.refl _ _).alloc (Nat.le_refl _) _
  have x2 := BoxA.new W1 32 (ra, rb)
  rw [s1] at x2
  exact ⟨by simp [s1], b1.trans (b2.mono (by omega)), by simp [s1], (b2.cell (p := ⟨w.heap.size, 0, none⟩) (by show w.heap.size < W1.heap.size; omega)).trans c1, x2⟩
end
end Go.Proofs.Ytbmlggieifaniaa
