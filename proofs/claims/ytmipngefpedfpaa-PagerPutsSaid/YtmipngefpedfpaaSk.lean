/- A sink, by its contracts; bytes in memory beside it (picked out of radix's texts by pick.py). -/
import Derived.Test.YtmipngefpedfpaaCl
import Derived.Test.YtmipngefpedfpaaHeap
import Derived.Test.YtmipngefpedfpaaReg
import Derived.Deep.CutRange
import Derived.Deep.MidRow
import Derived.Deep.RegionLaw
import Derived.Deep.CutBlock
namespace Go.Proofs.Ytmipngefpedfpaa
open Go.RowKit
set_option linter.unusedVariables false
set_option linter.unusedSimpArgs false

def addrV (a : Int × Int) : Value := .agg #[.int .i64 a.1, .int .i64 a.2]
def SlB (w : World) (v : Value) (L : Bytes) : Prop := ∃ A n c, v = .slice A n c ∧ n ≤ c ∧ SBy w A n L
theorem SlB.off {S : Nat → Prop} {w w' : World} {v : Value} {L : Bytes} (h : SlB w v L) (ho : Off S w w') (hs : ∀ b o n c, v = .slice (Option.some ⟨b, o, none⟩) n c → ¬ S b) : SlB w' v L := by
  obtain ⟨A, n, c, rfl, h1, h2⟩ := h
  exact ⟨A, n, c, rfl, h1, h2.off ho fun k o e => hs k o n c (by rw [e])⟩
theorem SlB.up {w w' : World} {v : Value} {L : Bytes} (h : SlB w v L) (hb : Below w.heap.size w w') : SlB w' v L := h.off (S := fun _ => False) (Off.of_below hb) (fun _ _ _ _ _ => id)
theorem loadVar_addr {w : World} {g o : Nat} {v0 v1 : Value} (h0 : w.cell? ⟨g, o, none⟩ = some v0) (h1 : w.cell? ⟨g, o + 1, none⟩ = some v1) : (loadVar 40 ⟨g, o, none⟩).run Try.prog w = .ok (.agg #[v0, v1]) w := by
  refine run_loadVar_mid (P := Try.prog) w g o 40 [v0, v1] _ (fun j v hv => ?_) Try.underlying40 rfl (by kernel_rfl)
  match j, hv with
  | 0, hv => simp at hv; rw [← hv]; exact h0
  | 1, hv => simp at hv; rw [← hv]; exact h1
  | j + 2, hv => simp at hv
theorem results_addr {fn : Func} {p u : Tmp} (h : fn.results = #[.cell p 40, .tmp u]) (tmps : Array Value) (w : World) (g : Nat) (v0 v1 : Value) (hp : tmps.getD p undef = .pointer (some ⟨g, 0, none⟩)) (h0 : w.cell? ⟨g, 0, none⟩ = some v0) (h1 : w.cell? ⟨g, 1, none⟩ = some v1) :
    (results fn tmps).run Try.prog w = .ok (.tuple #[.agg #[v0, v1], tmps.getD u undef]) w := by
  rw [results_cell_tmp h, hp]
  simp only [asAddr, Sem.run_pure, Result.andThen_ok, loadVar_addr h0 h1]
theorem results_addr1 {fn : Func} {p : Tmp} (h : fn.results = #[.cell p 40]) (tmps : Array Value) (w : World) (g : Nat) (v0 v1 : Value) (hp : tmps.getD p undef = .pointer (some ⟨g, 0, none⟩)) (h0 : w.cell? ⟨g, 0, none⟩ = some v0) (h1 : w.cell? ⟨g, 1, none⟩ = some v1) :
    (results fn tmps).run Try.prog w = .ok (.agg #[v0, v1]) w := by
  have hl := loadVar_addr h0 h1
  have hp2 : tmps[p]?.getD undef = .pointer (some ⟨g, 0, none⟩) := by rw [← hp]; simp [Array.getD_eq_getD_getElem?]
  simp [results, h, hp2, asAddr, hl, Result.andThen]
/-- An address of a slice's cells. -/
def Adr (A : Option Addr) : Prop := ∀ a, A = some a → ∃ b o, a = ⟨b, o, none⟩
def SlA (w : World) (v : Value) (L : Bytes) : Prop := ∃ A n c, v = .slice A n c ∧ n ≤ c ∧ SBy w A n L ∧ Adr A
theorem SlA.slB {w : World} {v : Value} {L : Bytes} (h : SlA w v L) : SlB w v L := by
  obtain ⟨A, n, c, h1, h2, h3, _⟩ := h
  exact ⟨A, n, c, h1, h2, h3⟩
theorem SlA.off {S : Nat → Prop} {w w' : World} {v : Value} {L : Bytes} (h : SlA w v L) (ho : Off S w w') (hs : ∀ b o n c, v = .slice (Option.some ⟨b, o, none⟩) n c → ¬ S b) : SlA w' v L := by
  obtain ⟨A, n, c, rfl, h1, h2, h3⟩ := h
  exact ⟨A, n, c, rfl, h1, h2.off ho fun k o e => hs k o n c (by rw [e]), h3⟩
theorem OwB.slA {B : Nat} {w : World} {v : Value} {L : Bytes} (h : OwB B w v L) : SlA w v L ∧ (∀ b o n c, v = .slice (Option.some ⟨b, o, none⟩) n c → B ≤ b) := by
  rcases h.2 with ⟨rfl, h0⟩ | ⟨g, cap, cur, rfl, hb, hg, h1, h2, h3, h4⟩
  · have : L = [] := by simpa using h0
    subst this
    exact ⟨⟨none, _, _, rfl, Nat.le_refl _, SBy.nil _ _, fun a e => by cases e⟩, fun b o n c e => by cases e⟩
  · obtain ⟨A, c, e, g1, g2, g3, g4⟩ := h.form
    cases e
    exact ⟨⟨_, _, _, rfl, g1, g3, fun a e => by cases e; exact ⟨_, _, rfl⟩⟩, fun b o n c e => by cases e; exact hb⟩
theorem adr_some {b o : Nat} : Adr (some ⟨b, o, none⟩) := fun a e => by cases e; exact ⟨_, _, rfl⟩
theorem SlA.drop {w : World} {b o n c k : Nat} {L : Bytes} (hS : SBy w (some ⟨b, o, none⟩) n L) (hk : k ≤ n) (hc : n ≤ c) : SlA w (.slice (some ⟨b, o + k, none⟩) (n - k) (c - k)) (L.drop k) := by
  refine ⟨_, _, _, rfl, by omega, ?_, adr_some⟩
  have := hS.part k n hk (Nat.le_refl _)
  rwa [List.take_of_length_le (by simp [hS.1])] at this
theorem SBy.take {w : World} {A : Option Addr} {n k : Nat} {L : Bytes} (hS : SBy w A n L) (hk : k ≤ n) : SBy w A k (L.take k) := by
  refine ⟨by simp [hS.1]; omega, fun hp => ?_⟩
  obtain ⟨b, o, rfl, h1, h2⟩ := hS.2 (by omega)
  refine ⟨b, o, rfl, h1, fun j hj => ?_⟩
  rw [h2 j (by omega)]
  simp [at8, List.getD_eq_getElem?_getD, List.getElem?_take, hj]
/-- Where a value's bytes lie, if it has any. -/
def VIn (Vb : Nat → Prop) (v : Value) : Prop := ∀ b o n c, v = .slice (some ⟨b, o, none⟩) n c → 0 < n → Vb b
theorem VIn.mono {V V' : Nat → Prop} {v : Value} (h : VIn V v) (hm : ∀ b, V b → V' b) : VIn V' v := fun b o n c e hn => hm b (h b o n c e hn)
theorem SlB.offP {S : Nat → Prop} {w w' : World} {v : Value} {L : Bytes} (h : SlB w v L) (ho : Off S w w') (hs : VIn (fun b => ¬ S b) v) : SlB w' v L := by
  obtain ⟨A, n, c, rfl, h1, h2⟩ := h
  refine ⟨A, n, c, rfl, h1, ?_⟩
  rcases Nat.eq_zero_or_pos n with h0 | h0
  · subst h0
    have : L = [] := by simpa using h2.1
    subst this
    exact SBy.nil _ _
  · exact h2.off ho fun k o e => hs k o n c (by rw [e]) h0
/-- A value's bytes lie in blocks that are there. -/
theorem SlB.inl {w : World} {v : Value} {L : Bytes} (h : SlB w v L) : VIn (fun b => b < w.heap.size) v := by
  obtain ⟨A, n, c, rfl, h1, h2⟩ := h
  intro b o n' c' e hn
  cases e
  obtain ⟨b', o', e', hc⟩ := h2.2 hn
  cases e'
  exact hc.1
theorem FrB.app {w0 w : World} {v : Value} {L M : Bytes} {A : Option Addr} {m c : Nat} (hf : FrB w0 w v L) (hS : SBy w A m M) (hlen : L.length + m ≤ 140737488355328) (ty : TypeId) :
    ∃ A' c' w', (Builtin.append_ #[22, 22] ty #[v, .slice A m c]).run Try.prog w = .ok (.slice A' (L ++ M).length c') w' ∧ FrB w0 w' (.slice A' (L ++ M).length c') (L ++ M) ∧ Off (fun k => v.ownBlock = some k) w w' := by
  obtain ⟨v', w', hr, h1, hg, h3⟩ := run_app (c := c) hf.own hS hf.bel.size hlen ty
  obtain ⟨A', c', rfl, _⟩ := h1.form
  exact ⟨A', c', w', hr, ⟨h1, hf.own.below hf.bel hg hf.bel.size⟩, grown_off hg⟩
set_option maxRecDepth 100000 in
theorem step_appF {ops : Array Oper} {o : Oper} {a : Act} {w : World} {K : Act → World → Prop} {Q : Exit → Act → World → Prop} {E : Prop} (hg : o.guard = none) (s x : Operand)
    (hop : o.op = Op.call { callee := Callee.builtin Builtin.append, args := #[s, x], argTypes := #[22, 22] }) (w0 : World) (v : Value) (L M : Bytes) (hs : a.eval s = v) (hf : FrB w0 w v L) (A : Option Addr) (m c : Nat) (hx : a.eval x = .slice A m c)
    (hS : SBy w A m M) (hlen : L.length + m ≤ 140737488355328) (n' : Nat) (hn' : n' = (L ++ M).length) (hK : ∀ A' c' w', FrB w0 w' (.slice A' n' c') (L ++ M) → K (a.put o.dst (.slice A' n' c')) w') :
    if Region.wanted o (yielded ops a.tmps) = true then Oper.wp Try.prog o a w K Q else E := by
  have hw : Region.wanted o (yielded ops a.tmps) = true := by simp [Region.wanted, hg]
  rw [if_pos hw]
  obtain ⟨A', c', w', hr, hf', _⟩ := hf.app hS hlen o.type
  rw [← hn'] at hr hf'
  unfold Oper.wp
  simp [execOp, hop, resolve, invoke, builtin, hs, hx, Result.andThen]
  rw [hr]
  exact hK A' c' w' hf'
/-- A counter that goes on. -/
def inc64 (p : Int) : Int := wrap64 (p + 1)
theorem FrB.slA {w0 w : World} {v : Value} {L : Bytes} (h : FrB w0 w v L) : SlA w v L ∧ ∀ b o n c, v = .slice (some ⟨b, o, none⟩) n c → w0.heap.size ≤ b := h.own.slA
theorem box2_set2 {w : World} {g : Nat} {a b v0 v1 : Value} (h0 : w.cell? ⟨g, 0, none⟩ = some a) (h1 : w.cell? ⟨g, 1, none⟩ = some b) :
    ((w.setCell ⟨g, 0, none⟩ v0).setCell ⟨g, 1, none⟩ v1).cell? ⟨g, 0, none⟩ = some v0 ∧ ((w.setCell ⟨g, 0, none⟩ v0).setCell ⟨g, 1, none⟩ v1).cell? ⟨g, 1, none⟩ = some v1 := by
  have n1 : (⟨g, 1, none⟩ : Addr) ≠ ⟨g, 0, none⟩ := fun e => by injection e with e1 e2; omega
  refine ⟨?_, World.cell?_setCell_same _ _ _ ((World.cell?_setCell_other _ _ _ _ n1.symm).trans h1)⟩
  rw [World.cell?_setCell_other _ _ _ _ n1]
  exact World.cell?_setCell_same _ _ _ h0
/-- A box of two zeros. -/
def Box0 (w : World) (g : Nat) : Prop := (w.cell? ⟨g, 0, none⟩ = some (.int .i64 0) ∧ w.cell? ⟨g, 1, none⟩ = some (.int .i64 0)) ∧ ∀ k, w.frozen? ⟨g, k, none⟩ = false
theorem Box0.new (w : World) (t : TypeId) : Box0 (w.alloc (.cells #[.int .i64 0, .int .i64 0] t)) w.heap.size := by
  refine ⟨⟨?_, ?_⟩, fun k => ?_⟩
  · rw [cell_of_row _ _ _ _ _ _ (heap_alloc_new w _)]; rfl
  · rw [cell_of_row _ _ _ _ _ _ (heap_alloc_new w _)]; rfl
  · unfold World.frozen?
    rw [heap_alloc_new]
    simp
theorem Box0.off {S : Nat → Prop} {w w' : World} {g : Nat} (h : Box0 w g) (ho : Off S w w') (hs : ¬ S g) : Box0 w' g := by
  have hlt := lt_of_cell h.1.1
  exact ⟨⟨(ho.cell (p := ⟨g, 0, none⟩) hlt hs).trans h.1.1, (ho.cell (p := ⟨g, 1, none⟩) hlt hs).trans h.1.2⟩, fun k => (ho.frozen (p := ⟨g, k, none⟩) hlt hs).trans (h.2 k)⟩
theorem Box0.new_up {w w' : World} {t : TypeId} (h : Below (w.alloc (.cells #[.int .i64 0, .int .i64 0] t)).drew.heap.size (w.alloc (.cells #[.int .i64 0, .int .i64 0] t)).drew w') : Box0 w' w.heap.size :=
  (Box0.new w t).off (S := fun _ => False) ((Off.refl _ _).drew.step h) id
theorem Box0.new_off {O : Nat → Prop} {w w' : World} {t : TypeId} (h : Off O (w.alloc (.cells #[.int .i64 0, .int .i64 0] t)) w') (hs : ¬ O w.heap.size) : Box0 w' w.heap.size := (Box0.new w t).off h hs
theorem eq_root (a b : Int) (w : World) : (Op.equalIn 10000 40 (.agg #[.int .i64 a, .int .i64 b]) (.agg #[.int .i64 0, .int .i64 0])).run Try.prog w = .ok (decide ((a, b) = ((0, 0) : Int × Int))) w := by
  have h : (Op.equalIn 10000 40 (.agg #[.int .i64 a, .int .i64 b]) (.agg #[.int .i64 0, .int .i64 0])).run Try.prog w = .ok (a == 0 && b == 0) w := by
    rw [run_equalIn_agg (P := Try.prog) w 9999 40 _ _ (by kernel_rfl) (by kernel_rfl)]
    cases h1 : a == 0 <;> cases h2 : b == 0 <;> simp [go_sem, h1, h2] <;> simp_all
  have h2 : (a == 0 && b == 0) = decide ((a, b) = ((0, 0) : Int × Int)) := by
    rw [Bool.eq_iff_iff]
    simp [Prod.ext_iff]
  rw [h, h2]
/-- A box with an address. -/
def BoxA (w : World) (g : Nat) (r : Int × Int) : Prop := w.cell? ⟨g, 0, none⟩ = some (.int .i64 r.1) ∧ w.cell? ⟨g, 1, none⟩ = some (.int .i64 r.2) ∧ ∀ k, w.frozen? ⟨g, k, none⟩ = false
theorem BoxA.lt {w : World} {g : Nat} {r : Int × Int} (h : BoxA w g r) : g < w.heap.size := lt_of_cell h.1
theorem BoxA.off {S : Nat → Prop} {w w' : World} {g : Nat} {r : Int × Int} (h : BoxA w g r) (ho : Off S w w') (hs : ¬ S g) : BoxA w' g r :=
  ⟨(ho.cell (p := ⟨g, 0, none⟩) h.lt hs).trans h.1, (ho.cell (p := ⟨g, 1, none⟩) h.lt hs).trans h.2.1, fun k => (ho.frozen (p := ⟨g, k, none⟩) h.lt hs).trans (h.2.2 k)⟩
theorem BoxA.new (w : World) (t : TypeId) (r : Int × Int) : BoxA (w.alloc (.cells #[.int .i64 r.1, .int .i64 r.2] t)) w.heap.size r := by
  refine ⟨?_, ?_, fun k => ?_⟩
  · rw [cell_of_row _ _ _ _ _ _ (heap_alloc_new w _)]; rfl
  · rw [cell_of_row _ _ _ _ _ _ (heap_alloc_new w _)]; rfl
  · unfold World.frozen?
    rw [heap_alloc_new]
    simp
theorem BoxA.set {w : World} {g : Nat} {r : Int × Int} (h : BoxA w g r) (r' : Int × Int) : BoxA ((w.setCell ⟨g, 0, none⟩ (.int .i64 r'.1)).setCell ⟨g, 1, none⟩ (.int .i64 r'.2)) g r' ∧ Off (· = g) w ((w.setCell ⟨g, 0, none⟩ (.int .i64 r'.1)).setCell ⟨g, 1, none⟩ (.int .i64 r'.2)) := by
  obtain ⟨e1, e2⟩ := box2_set2 (v0 := .int .i64 r'.1) (v1 := .int .i64 r'.2) h.1 h.2.1
  exact ⟨⟨e1, e2, fun k => by rw [World.frozen?_setCell, World.frozen?_setCell]; exact h.2.2 k⟩, ((Off.refl (· = g) w).setCell (p := ⟨g, 0, none⟩) rfl _).setCell (p := ⟨g, 1, none⟩) rfl _⟩
theorem eq_addr (a b c d : Int) (w : World) : (Op.equalIn 10000 40 (.agg #[.int .i64 a, .int .i64 b]) (.agg #[.int .i64 c, .int .i64 d])).run Try.prog w = .ok (decide ((a, b) = (c, d))) w := by
  have h : (Op.equalIn 10000 40 (.agg #[.int .i64 a, .int .i64 b]) (.agg #[.int .i64 c, .int .i64 d])).run Try.prog w = .ok (a == c && b == d) w := by
    rw [run_equalIn_agg (P := Try.prog) w 9999 40 _ _ (by kernel_rfl) (by kernel_rfl)]
    cases h1 : a == c <;> cases h2 : b == d <;> simp [go_sem, h1, h2] <;> simp_all
  have h2 : (a == c && b == d) = decide ((a, b) = (c, d)) := by
    rw [Bool.eq_iff_iff]
    simp [Prod.ext_iff]
  rw [h, h2]
/-- What a sink tells and takes, plainly. -/
structure SnkF (σ : Type) where
  get : σ → Int × Int → σ × Bytes × Int
  put : σ → Bytes → σ × (Int × Int) × Int
  Rdy : σ → Nat → Prop
def Bd (a : Int × Int) : Prop := 0 ≤ a.1 ∧ a.1 ≤ 2147483647 ∧ 0 ≤ a.2 ∧ a.2 ≤ 2147483647
structure SnkF.Good {σ : Type} (K : SnkF σ) : Prop where
  mono : ∀ s n m, K.Rdy s n → m ≤ n → K.Rdy s m
  getR : ∀ s a n, K.Rdy s n → K.Rdy (K.get s a).1 n
  putR : ∀ s b n, K.Rdy s (n + 1) → b.length ≤ 5000 → K.Rdy (K.put s b).1 n
  getB : ∀ s a, K.Rdy s 0 → (K.get s a).2.2 = 0 → Bd a
  putB : ∀ s b, K.Rdy s 1 → b.length ≤ 5000 → (K.put s b).2.2 = 0 → Bd (K.put s b).2.1
/-- Get has answered. -/
def GePost {σ : Type} (At : World → (Nat → Prop) → σ → Prop) (K : SnkF σ) (w : World) (O : Nat → Prop) (s : σ) (a : Int × Int) (e : Ending) (w' : World) : Prop :=
  ∃ v, e = .returned (.tuple #[v, .int .i64 (K.get s a).2.2]) ∧ At w' O (K.get s a).1 ∧ Off O w w' ∧ SlA w' v (K.get s a).2.1 ∧ (∀ b o n c, v = .slice (some ⟨b, o, none⟩) n c → w.heap.size ≤ b) ∧ (K.get s a).2.1.length ≤ 2 ^ 40
/-- Put has answered. -/
def PuPost {σ : Type} (At : World → (Nat → Prop) → σ → Prop) (K : SnkF σ) (w : World) (O : Nat → Prop) (s : σ) (b : Bytes) (e : Ending) (w' : World) : Prop :=
  ∃ O' : Nat → Prop, e = .returned (.tuple #[addrV (K.put s b).2.1, .int .i64 (K.put s b).2.2]) ∧ At w' O' (K.put s b).1 ∧ Off O w w' ∧ ∀ k, O' k → O k ∨ w.heap.size ≤ k
/-- A sink in memory: its own blocks, its state. -/
structure Snk {σ : Type} (K : SnkF σ) where
  T : TypeId
  p : Option Addr
  fg : FuncId
  fp : FuncId
  nilG : ∀ n w, (nilAhead (n + 1) T (.pointer p) "Get").run Try.prog w = .ok (some false) w
  nilP : ∀ n w, (nilAhead (n + 1) T (.pointer p) "Put").run Try.prog w = .ok (some false) w
  metG : ∀ n w, (method (n + 1) T (.pointer p) "Get").run Try.prog w = .ok (fg, .pointer p) w
  metP : ∀ n w, (method (n + 1) T (.pointer p) "Put").run Try.prog w = .ok (fp, .pointer p) w
  entG : ∀ (args : Array Value) (w : World), (callFunc fg args).run Try.prog w = .ok (.enter fg args) w
  entP : ∀ (args : Array Value) (w : World), (callFunc fp args).run Try.prog w = .ok (.enter fp args) w
  At : World → (Nat → Prop) → σ → Prop
  off : ∀ {S O : Nat → Prop} {w w' : World} {s : σ}, At w O s → Off S w w' → (∀ k, S k → ¬ O k) → At w' O s
  lt : ∀ {O : Nat → Prop} {w : World} {s : σ} {k : Nat}, At w O s → O k → k < w.heap.size
  get : ∀ {O : Nat → Prop} {w : World} {s : σ} (a : Int × Int), At w O s → Calls Try.prog fg #[.pointer p, addrV a] w (GePost At K w O s a)
  put : ∀ {O : Nat → Prop} {w : World} {s : σ} {v : Value} {b : Bytes}, At w O s → K.Rdy s 1 → SlA w v b → b.length ≤ 5000 → Calls Try.prog fp #[.pointer p, v] w (PuPost At K w O s b)
end Go.Proofs.Ytmipngefpedfpaa
