/- A sink, by its contracts; bytes in memory beside it (picked out of radix's texts by pick.py). The shelf of almanaclaw11: a sink. Get. The shelf of almanaclaw11: Put, NewShelf; the sink. The shelf of almanaclaw11 as a sink of a tree: NewShelf, radix.New, Puts. A sink that keeps what it took, plainly; bytes 0 (picked out of radix's and blobs' texts by pick.py; the rest at its end). -/
import Derived.Test.YtlhfjaagkgengaaGreatMF
import Derived.Test.YtlhfjaagkgengaaGreatMA
import Derived.Deep.CutRange
import Derived.Deep.MidRow
import Derived.Deep.RegionLaw
import Derived.Deep.CutBlock
import Derived.Maps.OwnOps
namespace Go.Proofs.YtlhfjaagkgengaaGreat
open Go.RowKit
set_option linter.unusedVariables false
set_option linter.unusedSimpArgs false

def addrV (a : Int × Int) : Value := .agg #[.int .i64 a.1, .int .i64 a.2]
def SlB (w : World) (v : Value) (L : Bytes) : Prop := ∃ A n c, v = .slice A n c ∧ n ≤ c ∧ SBy w A n L
theorem SlB.off {S : Nat → Prop} {w w' : World} {v : Value} {L : Bytes} (h : SlB w v L) (ho : Off S w w') (hs : ∀ b o n c, v = .slice (Option.some ⟨b, o, none⟩) n c → ¬ S b) : SlB w' v L := by
  obtain ⟨A, n, c, rfl, h1, h2⟩ := h
  exact ⟨A, n, c, rfl, h1, h2.off ho fun k o e => hs k o n c (by rw [e])⟩
theorem SlB.up {w w' : World} {v : Value} {L : Bytes} (h : SlB w v L) (hb : Below w.heap.size w w') : SlB w' v L := h.off (S := fun _ => False) (Off.of_below hb) (fun _ _ _ _ _ => id)
theorem loadVar_addr {w : World} {g o : Nat} {v0 v1 : Value} (h0 : w.cell? ⟨g, o, none⟩ = some v0) (h1 : w.cell? ⟨g, o + 1, none⟩ = some v1) : (loadVar 149 ⟨g, o, none⟩).run Tryz.prog w = .ok (.agg #[v0, v1]) w := by
  refine run_loadVar_mid (P := Tryz.prog) w g o 149 [v0, v1] _ (fun j v hv => ?_) Tryz.underlying149 rfl (by kernel_rfl)
  match j, hv with
  | 0, hv => simp at hv; rw [← hv]; exact h0
  | 1, hv => simp at hv; rw [← hv]; exact h1
  | j + 2, hv => simp at hv
theorem results_addr {fn : Func} {p u : Tmp} (h : fn.results = #[.cell p 149, .tmp u]) (tmps : Array Value) (w : World) (g : Nat) (v0 v1 : Value) (hp : tmps.getD p undef = .pointer (some ⟨g, 0, none⟩)) (h0 : w.cell? ⟨g, 0, none⟩ = some v0) (h1 : w.cell? ⟨g, 1, none⟩ = some v1) :
    (results fn tmps).run Tryz.prog w = .ok (.tuple #[.agg #[v0, v1], tmps.getD u undef]) w := by
  rw [results_cell_tmp h, hp]
  simp only [asAddr, Sem.run_pure, Result.andThen_ok, loadVar_addr h0 h1]
theorem results_addr1 {fn : Func} {p : Tmp} (h : fn.results = #[.cell p 149]) (tmps : Array Value) (w : World) (g : Nat) (v0 v1 : Value) (hp : tmps.getD p undef = .pointer (some ⟨g, 0, none⟩)) (h0 : w.cell? ⟨g, 0, none⟩ = some v0) (h1 : w.cell? ⟨g, 1, none⟩ = some v1) :
    (results fn tmps).run Tryz.prog w = .ok (.agg #[v0, v1]) w := by
  have hl := loadVar_addr h0 h1
  have hp2 : tmps[p]?.getD undef = .pointer (some ⟨g, 0, none⟩) := by rw [← hp]; simp [Array.getD_eq_getD_getElem?]
  simp [results, h, hp2, asAddr, hl, Result.andThen]
/-- An address of a slice's cells. -/
def Adr (A : Option Addr) : Prop := ∀ a, A = some a → ∃ b o, a = ⟨b, o, none⟩
def SlA (w : World) (v : Value) (L : Bytes) : Prop := ∃ A n c, v = .slice A n c ∧ n ≤ c ∧ SBy w A n L ∧ Adr A
theorem SlA.slB {w : World} {v : Value} {L : Bytes} (h : SlA w v L) : SlB w v L := by
  obtain ⟨A, n, c, h1, h2, h3, _⟩ := h
  exact ⟨A, n, c, h1, h2, h3⟩
theorem SlA.off {S : Nat → Prop} {w w' : World} {v : Value} {L : Bytes} (h : SlA w v L) (ho : Off S w w') (hs : ∀ b o n c, v = .slice (Option.some ⟨b, o, none⟩) n c → ¬ S b) : SlA w' v L := by
  obtain ⟨A, n, c, rfl, h1, h2, h3⟩ := h
  exact ⟨A, n, c, rfl, h1, h2.off ho fun k o e => hs k o n c (by rw [e]), h3⟩
theorem OwB.slA {B : Nat} {w : World} {v : Value} {L : Bytes} (h : OwB B w v L) : SlA w v L ∧ (∀ b o n c, v = .slice (Option.some ⟨b, o, none⟩) n c → B ≤ b) := by
  rcases h.2 with ⟨rfl, h0⟩ | ⟨g, cap, cur, rfl, hb, hg, h1, h2, h3, h4⟩
  · have : L = [] := by simpa using h0
    subst this
    exact ⟨⟨none, _, _, rfl, Nat.le_refl _, SBy.nil _ _, fun a e => by cases e⟩, fun b o n c e => by cases e⟩
  · obtain ⟨A, c, e, g1, g2, g3, g4⟩ := h.form
    cases e
    exact ⟨⟨_, _, _, rfl, g1, g3, fun a e => by cases e; exact ⟨_, _, rfl⟩⟩, fun b o n c e => by cases e; exact hb⟩
theorem adr_some {b o : Nat} : Adr (some ⟨b, o, none⟩) := fun a e => by cases e; exact ⟨_, _, rfl⟩
theorem SlA.drop {w : World} {b o n c k : Nat} {L : Bytes} (hS : SBy w (some ⟨b, o, none⟩) n L) (hk : k ≤ n) (hc : n ≤ c) : SlA w (.slice (some ⟨b, o + k, none⟩) (n - k) (c - k)) (L.drop k) := by
  refine ⟨_, _, _, rfl, by omega, ?_, adr_some⟩
  have := hS.part k n hk (Nat.le_refl _)
  rwa [List.take_of_length_le (by simp [hS.1])] at this
theorem SBy.take {w : World} {A : Option Addr} {n k : Nat} {L : Bytes} (hS : SBy w A n L) (hk : k ≤ n) : SBy w A k (L.take k) := by
  refine ⟨by simp [hS.1]; omega, fun hp => ?_⟩
  obtain ⟨b, o, rfl, h1, h2⟩ := hS.2 (by omega)
  refine ⟨b, o, rfl, h1, fun j hj => ?_⟩
  rw [h2 j (by omega)]
  simp [at8, List.getD_eq_getElem?_getD, List.getElem?_take, hj]
/-- Where a value's bytes lie, if it has any. -/
def VIn (Vb : Nat → Prop) (v : Value) : Prop := ∀ b o n c, v = .slice (some ⟨b, o, none⟩) n c → 0 < n → Vb b
theorem VIn.mono {V V' : Nat → Prop} {v : Value} (h : VIn V v) (hm : ∀ b, V b → V' b) : VIn V' v := fun b o n c e hn => hm b (h b o n c e hn)
theorem SlB.offP {S : Nat → Prop} {w w' : World} {v : Value} {L : Bytes} (h : SlB w v L) (ho : Off S w w') (hs : VIn (fun b => ¬ S b) v) : SlB w' v L := by
  obtain ⟨A, n, c, rfl, h1, h2⟩ := h
  refine ⟨A, n, c, rfl, h1, ?_⟩
  rcases Nat.eq_zero_or_pos n with h0 | h0
  · subst h0
    have : L = [] := by simpa using h2.1
    subst this
    exact SBy.nil _ _
  · exact h2.off ho fun k o e => hs k o n c (by rw [e]) h0
/-- A value's bytes lie in blocks that are there. -/
theorem SlB.inl {w : World} {v : Value} {L : Bytes} (h : SlB w v L) : VIn (fun b => b < w.heap.size) v := by
  obtain ⟨A, n, c, rfl, h1, h2⟩ := h
  intro b o n' c' e hn
  cases e
  obtain ⟨b', o', e', hc⟩ := h2.2 hn
  cases e'
  exact hc.1
theorem FrB.app {w0 w : World} {v : Value} {L M : Bytes} {A : Option Addr} {m c : Nat} (hf : FrB w0 w v L) (hS : SBy w A m M) (hlen : L.length + m ≤ 140737488355328) (ty : TypeId) :
    ∃ A' c' w', (Builtin.append_ #[24, 24] ty #[v, .slice A m c]).run Tryz.prog w = .ok (.slice A' (L ++ M).length c') w' ∧ FrB w0 w' (.slice A' (L ++ M).length c') (L ++ M) ∧ Off (fun k => v.ownBlock = some k) w w' := by
  obtain ⟨v', w', hr, h1, hg, h3⟩ := run_app (c := c) hf.own hS hf.bel.size hlen ty
  obtain ⟨A', c', rfl, _⟩ := h1.form
  exact ⟨A', c', w', hr, ⟨h1, hf.own.below hf.bel hg hf.bel.size⟩, grown_off hg⟩
set_option maxRecDepth 100000 in
theorem step_appF {ops : Array Oper} {o : Oper} {a : Act} {w : World} {K : Act → World → Prop} {Q : Exit → Act → World → Prop} {E : Prop} (hg : o.guard = none) (s x : Operand)
    (hop : o.op = Op.call { callee := Callee.builtin Builtin.append, args := #[s, x], argTypes := #[24, 24] }) (w0 : World) (v : Value) (L M : Bytes) (hs : a.eval s = v) (hf : FrB w0 w v L) (A : Option Addr) (m c : Nat) (hx : a.eval x = .slice A m c)
    (hS : SBy w A m M) (hlen : L.length + m ≤ 140737488355328) (n' : Nat) (hn' : n' = (L ++ M).length) (hK : ∀ A' c' w', FrB w0 w' (.slice A' n' c') (L ++ M) → K (a.put o.dst (.slice A' n' c')) w') :
    if Region.wanted o (yielded ops a.tmps) = true then Oper.wp Tryz.prog o a w K Q else E := by
  have hw : Region.wanted o (yielded ops a.tmps) = true := by simp [Region.wanted, hg]
  rw [if_pos hw]
  obtain ⟨A', c', w', hr, hf', _⟩ := hf.app hS hlen o.type
  rw [← hn'] at hr hf'
  unfold Oper.wp
  simp [execOp, hop, resolve, invoke, builtin, hs, hx, Result.andThen]
  rw [hr]
  exact hK A' c' w' hf'
/-- A counter that goes on. -/
def inc64 (p : Int) : Int := wrap64 (p + 1)
theorem FrB.slA {w0 w : World} {v : Value} {L : Bytes} (h : FrB w0 w v L) : SlA w v L ∧ ∀ b o n c, v = .slice (some ⟨b, o, none⟩) n c → w0.heap.size ≤ b := h.own.slA
theorem box2_set2 {w : World} {g : Nat} {a b v0 v1 : Value} (h0 : w.cell? ⟨g, 0, none⟩ = some a) (h1 : w.cell? ⟨g, 1, none⟩ = some b) :
    ((w.setCell ⟨g, 0, none⟩ v0).setCell ⟨g, 1, none⟩ v1).cell? ⟨g, 0, none⟩ = some v0 ∧ ((w.setCell ⟨g, 0, none⟩ v0).setCell ⟨g, 1, none⟩ v1).cell? ⟨g, 1, none⟩ = some v1 := by
  have n1 : (⟨g, 1, none⟩ : Addr) ≠ ⟨g, 0, none⟩ := fun e => by injection e with e1 e2; omega
  refine ⟨?_, World.cell?_setCell_same _ _ _ ((World.cell?_setCell_other _ _ _ _ n1.symm).trans h1)⟩
  rw [World.cell?_setCell_other _ _ _ _ n1]
  exact World.cell?_setCell_same _ _ _ h0
/-- A box of two zeros. -/
def Box0 (w : World) (g : Nat) : Prop := (w.cell? ⟨g, 0, none⟩ = some (.int .i64 0) ∧ w.cell? ⟨g, 1, none⟩ = some (.int .i64 0)) ∧ ∀ k, w.frozen? ⟨g, k, none⟩ = false
theorem Box0.new (w : World) (t : TypeId) : Box0 (w.alloc (.cells #[.int .i64 0, .int .i64 0] t)) w.heap.size := by
  refine ⟨⟨?_, ?_⟩, fun k => ?_⟩
  · rw [cell_of_row _ _ _ _ _ _ (heap_alloc_new w _)]; rfl
  · rw [cell_of_row _ _ _ _ _ _ (heap_alloc_new w _)]; rfl
  · unfold World.frozen?
    rw [heap_alloc_new]
    simp
theorem Box0.off {S : Nat → Prop} {w w' : World} {g : Nat} (h : Box0 w g) (ho : Off S w w') (hs : ¬ S g) : Box0 w' g := by
  have hlt := lt_of_cell h.1.1
  exact ⟨⟨(ho.cell (p := ⟨g, 0, none⟩) hlt hs).trans h.1.1, (ho.cell (p := ⟨g, 1, none⟩) hlt hs).trans h.1.2⟩, fun k => (ho.frozen (p := ⟨g, k, none⟩) hlt hs).trans (h.2 k)⟩
theorem Box0.new_up {w w' : World} {t : TypeId} (h : Below (w.alloc (.cells #[.int .i64 0, .int .i64 0] t)).drew.heap.size (w.alloc (.cells #[.int .i64 0, .int .i64 0] t)).drew w') : Box0 w' w.heap.size :=
  (Box0.new w t).off (S := fun _ => False) ((Off.refl _ _).drew.step h) id
theorem Box0.new_off {O : Nat → Prop} {w w' : World} {t : TypeId} (h : Off O (w.alloc (.cells #[.int .i64 0, .int .i64 0] t)) w') (hs : ¬ O w.heap.size) : Box0 w' w.heap.size := (Box0.new w t).off h hs
theorem eq_root (a b : Int) (w : World) : (Op.equalIn 10000 149 (.agg #[.int .i64 a, .int .i64 b]) (.agg #[.int .i64 0, .int .i64 0])).run Tryz.prog w = .ok (decide ((a, b) = ((0, 0) : Int × Int))) w := by
  have h : (Op.equalIn 10000 149 (.agg #[.int .i64 a, .int .i64 b]) (.agg #[.int .i64 0, .int .i64 0])).run Tryz.prog w = .ok (a == 0 && b == 0) w := by
    rw [run_equalIn_agg (P := Tryz.prog) w 9999 149 _ _ (by kernel_rfl) (by kernel_rfl)]
    cases h1 : a == 0 <;> cases h2 : b == 0 <;> simp [go_sem, h1, h2] <;> simp_all
  have h2 : (a == 0 && b == 0) = decide ((a, b) = ((0, 0) : Int × Int)) := by
    rw [Bool.eq_iff_iff]
    simp [Prod.ext_iff]
  rw [h, h2]
/-- A box with an address. -/
def BoxA (w : World) (g : Nat) (r : Int × Int) : Prop := w.cell? ⟨g, 0, none⟩ = some (.int .i64 r.1) ∧ w.cell? ⟨g, 1, none⟩ = some (.int .i64 r.2) ∧ ∀ k, w.frozen? ⟨g, k, none⟩ = false
theorem BoxA.lt {w : World} {g : Nat} {r : Int × Int} (h : BoxA w g r) : g < w.heap.size := lt_of_cell h.1
theorem BoxA.off {S : Nat → Prop} {w w' : World} {g : Nat} {r : Int × Int} (h : BoxA w g r) (ho : Off S w w') (hs : ¬ S g) : BoxA w' g r :=
  ⟨(ho.cell (p := ⟨g, 0, none⟩) h.lt hs).trans h.1, (ho.cell (p := ⟨g, 1, none⟩) h.lt hs).trans h.2.1, fun k => (ho.frozen (p := ⟨g, k, none⟩) h.lt hs).trans (h.2.2 k)⟩
theorem BoxA.new (w : World) (t : TypeId) (r : Int × Int) : BoxA (w.alloc (.cells #[.int .i64 r.1, .int .i64 r.2] t)) w.heap.size r := by
  refine ⟨?_, ?_, fun k => ?_⟩
  · rw [cell_of_row _ _ _ _ _ _ (heap_alloc_new w _)]; rfl
  · rw [cell_of_row _ _ _ _ _ _ (heap_alloc_new w _)]; rfl
  · unfold World.frozen?
    rw [heap_alloc_new]
    simp
theorem BoxA.set {w : World} {g : Nat} {r : Int × Int} (h : BoxA w g r) (r' : Int × Int) : BoxA ((w.setCell ⟨g, 0, none⟩ (.int .i64 r'.1)).setCell ⟨g, 1, none⟩ (.int .i64 r'.2)) g r' ∧ Off (· = g) w ((w.setCell ⟨g, 0, none⟩ (.int .i64 r'.1)).setCell ⟨g, 1, none⟩ (.int .i64 r'.2)) := by
  obtain ⟨e1, e2⟩ := box2_set2 (v0 := .int .i64 r'.1) (v1 := .int .i64 r'.2) h.1 h.2.1
  exact ⟨⟨e1, e2, fun k => by rw [World.frozen?_setCell, World.frozen?_setCell]; exact h.2.2 k⟩, ((Off.refl (· = g) w).setCell (p := ⟨g, 0, none⟩) rfl _).setCell (p := ⟨g, 1, none⟩) rfl _⟩
theorem eq_addr (a b c d : Int) (w : World) : (Op.equalIn 10000 149 (.agg #[.int .i64 a, .int .i64 b]) (.agg #[.int .i64 c, .int .i64 d])).run Tryz.prog w = .ok (decide ((a, b) = (c, d))) w := by
  have h : (Op.equalIn 10000 149 (.agg #[.int .i64 a, .int .i64 b]) (.agg #[.int .i64 c, .int .i64 d])).run Tryz.prog w = .ok (a == c && b == d) w := by
    rw [run_equalIn_agg (P := Tryz.prog) w 9999 149 _ _ (by kernel_rfl) (by kernel_rfl)]
    cases h1 : a == c <;> cases h2 : b == d <;> simp [go_sem, h1, h2] <;> simp_all
  have h2 : (a == c && b == d) = decide ((a, b) = (c, d)) := by
    rw [Bool.eq_iff_iff]
    simp [Prod.ext_iff]
  rw [h, h2]
/-- What a sink tells and takes, plainly. -/
structure SnkF (σ : Type) where
  get : σ → Int × Int → σ × Bytes × Int
  put : σ → Bytes → σ × (Int × Int) × Int
  Rdy : σ → Nat → Prop
def Bd (a : Int × Int) : Prop := 0 ≤ a.1 ∧ a.1 ≤ 2147483647 ∧ 0 ≤ a.2 ∧ a.2 ≤ 2147483647
structure SnkF.Good {σ : Type} (K : SnkF σ) : Prop where
  mono : ∀ s n m, K.Rdy s n → m ≤ n → K.Rdy s m
  getR : ∀ s a n, K.Rdy s n → K.Rdy (K.get s a).1 n
  putR : ∀ s b n, K.Rdy s (n + 1) → b.length ≤ 5000 → K.Rdy (K.put s b).1 n
  getB : ∀ s a, K.Rdy s 0 → (K.get s a).2.2 = 0 → Bd a
  putB : ∀ s b, K.Rdy s 1 → b.length ≤ 5000 → (K.put s b).2.2 = 0 → Bd (K.put s b).2.1
/-- Get has answered. -/
def GePost {σ : Type} (At : World → (Nat → Prop) → σ → Prop) (K : SnkF σ) (w : World) (O : Nat → Prop) (s : σ) (a : Int × Int) (e : Ending) (w' : World) : Prop :=
  ∃ v, e = .returned (.tuple #[v, .int .i64 (K.get s a).2.2]) ∧ At w' O (K.get s a).1 ∧ Off O w w' ∧ SlA w' v (K.get s a).2.1 ∧ (∀ b o n c, v = .slice (some ⟨b, o, none⟩) n c → w.heap.size ≤ b) ∧ (K.get s a).2.1.length ≤ 2 ^ 40
/-- Put has answered. -/
def PuPost {σ : Type} (At : World → (Nat → Prop) → σ → Prop) (K : SnkF σ) (w : World) (O : Nat → Prop) (s : σ) (b : Bytes) (e : Ending) (w' : World) : Prop :=
  ∃ O' : Nat → Prop, e = .returned (.tuple #[addrV (K.put s b).2.1, .int .i64 (K.put s b).2.2]) ∧ At w' O' (K.put s b).1 ∧ Off O w w' ∧ ∀ k, O' k → O k ∨ w.heap.size ≤ k
/-- A sink in memory: its own blocks, its state. -/
structure Snk {σ : Type} (K : SnkF σ) where
  T : TypeId
  p : Option Addr
  fg : FuncId
  fp : FuncId
  nilG : ∀ n w, (nilAhead (n + 1) T (.pointer p) "Get").run Tryz.prog w = .ok (some false) w
  nilP : ∀ n w, (nilAhead (n + 1) T (.pointer p) "Put").run Tryz.prog w = .ok (some false) w
  metG : ∀ n w, (method (n + 1) T (.pointer p) "Get").run Tryz.prog w = .ok (fg, .pointer p) w
  metP : ∀ n w, (method (n + 1) T (.pointer p) "Put").run Tryz.prog w = .ok (fp, .pointer p) w
  entG : ∀ (args : Array Value) (w : World), (callFunc fg args).run Tryz.prog w = .ok (.enter fg args) w
  entP : ∀ (args : Array Value) (w : World), (callFunc fp args).run Tryz.prog w = .ok (.enter fp args) w
  At : World → (Nat → Prop) → σ → Prop
  off : ∀ {S O : Nat → Prop} {w w' : World} {s : σ}, At w O s → Off S w w' → (∀ k, S k → ¬ O k) → At w' O s
  lt : ∀ {O : Nat → Prop} {w : World} {s : σ} {k : Nat}, At w O s → O k → k < w.heap.size
  get : ∀ {O : Nat → Prop} {w : World} {s : σ} (a : Int × Int), At w O s → Calls Tryz.prog fg #[.pointer p, addrV a] w (GePost At K w O s a)
  put : ∀ {O : Nat → Prop} {w : World} {s : σ} {v : Value} {b : Bytes}, At w O s → K.Rdy s 1 → SlA w v b → b.length ≤ 5000 → Calls Tryz.prog fp #[.pointer p, v] w (PuPost At K w O s b)
end Go.Proofs.YtlhfjaagkgengaaGreat
namespace Go.Proofs.YtlhfjaagkgengaaGreat
open Go.RowKit
set_option linter.unusedVariables false
set_option linter.unusedSimpArgs false

structure ShS where
  L : List Bytes
  bad : Int
  other : Bytes
  full : Int
  gets : Int
def shK : SnkF ShS where
  get s a :=
    if a.1 < 1 ∨ (s.L.length : Int) < a.1 then ({ s with gets := inc64 s.gets }, [], 20)
    else if a.2 ≠ 13 + ((s.L.getD (a.1 - 1).toNat []).length : Int) then ({ s with gets := inc64 s.gets }, [], 20)
    else ({ s with gets := inc64 s.gets }, if s.bad = a.1 - 1 then s.other else s.L.getD (a.1 - 1).toNat [], 0)
  put s b := if s.full = 0 then (s, (0, 0), 7) else ({ s with L := s.L ++ [b], full := if 0 < s.full then s.full - 1 else s.full }, ((s.L.length : Int) + 1, 13 + (b.length : Int)), 0)
  Rdy s n := s.L.length + n ≤ 2147483647 ∧ (∀ b ∈ s.L, b.length ≤ 1000000) ∧ s.other.length ≤ 1000000 ∧ s.full < 9223372036854775808
theorem shK_good : shK.Good where
  mono s n m h hm := ⟨by have := h.1; omega, h.2⟩
  getR s a n h := by
    simp only [shK]
    split
    · exact h
    · split <;> exact h
  putR s b n h hb := by
    simp only [shK]
    split
    · exact ⟨by have := h.1; show s.L.length + n ≤ _; omega, h.2⟩
    · refine ⟨by have := h.1; simp; omega, fun x hx => ?_, h.2.2.1, ?_⟩
      · rcases List.mem_append.1 hx with hx | hx
        · exact h.2.1 x hx
        · rw [List.mem_singleton.1 hx]; omega
      · have := h.2.2.2
        simp only
        split <;> omega
  getB s a h h0 := by
    simp only [shK] at h0
    have h1 := h.1
    split at h0
    · simp at h0
    · rename_i g1
      split at h0
      · simp at h0
      · rename_i g2
        have h3 : (s.L.getD (a.1 - 1).toNat []).length ≤ 1000000 := by
          rw [List.getD_eq_getElem?_getD]
          cases hx : s.L[(a.1 - 1).toNat]? with
          | none => simp
          | some b => exact h.2.1 b (List.mem_of_getElem? hx)
        unfold Bd
        omega
  putB s b h hb h0 := by
    simp only [shK] at h0 ⊢
    split at h0
    · simp at h0
    · rename_i g1
      have h1 := h.1
      rw [if_neg g1]
      unfold Bd
      simp only
      omega
structure ShIn (w : World) (S : Nat) (rv : Value) (vs : List Value) (ov : Value) (s : ShS) : Prop where
  c0 : w.cell? ⟨S, 0, none⟩ = some rv
  c1 : w.cell? ⟨S, 1, none⟩ = some (.int .i64 s.bad)
  c2 : w.cell? ⟨S, 2, none⟩ = some ov
  c3 : w.cell? ⟨S, 3, none⟩ = some (.int .i64 s.full)
  c4 : w.cell? ⟨S, 4, none⟩ = some (.int .i64 s.gets)
  fr : ∀ k, w.frozen? ⟨S, k, none⟩ = false
  row : w.ownsRow 0 24 1 rv vs.length vs
  len : vs.length = s.L.length
  it : ∀ (i : Nat) v b, vs[i]? = some v → s.L[i]? = some b → SlB w v b
  ot : SlB w ov s.other
  neR : rv.ownBlock ≠ some S
  neI : ∀ v ∈ vs, VIn (fun b => b ≠ S ∧ rv.ownBlock ≠ some b) v
  neO : VIn (fun b => b ≠ S ∧ rv.ownBlock ≠ some b) ov
  sz : shK.Rdy s 0
  big : ∀ k, 5 ≤ k → w.cell? ⟨S, k, none⟩ = none
def ShAt (S : Nat) (w : World) (O : Nat → Prop) (s : ShS) : Prop :=
  ∃ rv vs ov, ShIn w S rv vs ov s ∧ O S ∧ (∀ g, rv.ownBlock = some g → O g) ∧ (∀ v ∈ vs, VIn O v) ∧ VIn O ov ∧ ∀ k, O k → k < w.heap.size
theorem row_off {S : Nat → Prop} {w w' : World} {v : Value} {t : TypeId} {n : Nat} {xs : List Value} (h : w.ownsRow 0 t 1 v n xs) (ho : Off S w w') (hs : ∀ g, v.ownBlock = some g → ¬ S g) : w'.ownsRow 0 t 1 v n xs := by
  refine ⟨h.1, ?_⟩
  rcases h.2 with hn | ⟨g, cap, cur, rfl, hb, hgg, rest⟩
  · exact .inl hn
  · exact .inr ⟨g, cap, cur, rfl, hb, (ho.block g (Array.getElem?_eq_some_iff.1 hgg).1 (hs g rfl)).trans hgg, rest⟩
section
variable {w w' : World} {S : Nat} {rv ov : Value} {vs : List Value} {s : ShS} {O P : Nat → Prop}
/-- No bytes lie in the shelf's own block. -/
theorem ShIn.noBy (h : ShIn w S rv vs ov s) {v : Value} {L : Bytes} (hv : SlB w v L) : VIn (fun b => ¬ b = S) v := by
  intro b o n c e h0 hb
  subst hb
  obtain ⟨A, n', c', rfl, h1, h2⟩ := hv
  cases e
  obtain ⟨b', o', e', hlt, hc⟩ := h2.2 h0
  cases e'
  have h3 := hc 0 h0
  rw [Nat.add_zero] at h3
  obtain ⟨A2, n2, c2, e2, _⟩ := h.ot
  have hrv : ∃ A3 n3 c3, rv = .slice A3 n3 c3 := by
    rcases h.row.2 with ⟨rfl, _⟩ | ⟨g, cap, cur, rfl, _⟩
    · exact ⟨_, _, _, rfl⟩
    · exact ⟨_, _, _, rfl⟩
  obtain ⟨A3, n3, c3, e3⟩ := hrv
  rcases Nat.lt_or_ge o 5 with ho | ho
  · have hcs : o = 0 ∨ o = 1 ∨ o = 2 ∨ o = 3 ∨ o = 4 := by omega
    rcases hcs with rfl | rfl | rfl | rfl | rfl
    · rw [h.c0, e3] at h3; cases h3
    · rw [h.c1] at h3; cases h3
    · rw [h.c2, e2] at h3; cases h3
    · rw [h.c3] at h3; cases h3
    · rw [h.c4] at h3; cases h3
  · rw [h.big o ho] at h3; cases h3
theorem ShIn.lt (h : ShIn w S rv vs ov s) : S < w.heap.size := lt_of_cell h.c0
theorem ShIn.off (h : ShIn w S rv vs ov s) (ho : Off P w w') (h1 : ¬ P S) (h2 : ∀ g, rv.ownBlock = some g → ¬ P g) (h3 : ∀ v ∈ vs, VIn (fun b => ¬ P b) v) (h4 : VIn (fun b => ¬ P b) ov) : ShIn w' S rv vs ov s :=
  ⟨(ho.cell (p := ⟨S, 0, none⟩) h.lt h1).trans h.c0, (ho.cell (p := ⟨S, 1, none⟩) h.lt h1).trans h.c1, (ho.cell (p := ⟨S, 2, none⟩) h.lt h1).trans h.c2, (ho.cell (p := ⟨S, 3, none⟩) h.lt h1).trans h.c3, (ho.cell (p := ⟨S, 4, none⟩) h.lt h1).trans h.c4,
    fun k => (ho.frozen (p := ⟨S, k, none⟩) h.lt h1).trans (h.fr k), row_off h.row ho h2, h.len, fun i v b e1 e2 => (h.it i v b e1 e2).offP ho (h3 v (List.mem_of_getElem? e1)), h.ot.offP ho h4, h.neR, h.neI, h.neO, h.sz, fun k hk => (ho.cell (p := ⟨S, k, none⟩) h.lt h1).trans (h.big k hk)⟩
theorem ShIn.up (h : ShIn w S rv vs ov s) (hb : Below w.heap.size w w') : ShIn w' S rv vs ov s := h.off (P := fun _ => False) (Off.of_below hb) id (fun _ _ => id) (fun _ _ _ _ _ _ _ _ => id) (fun _ _ _ _ _ _ => id)
theorem ShAt.off (h : ShAt S w O s) (ho : Off P w w') (hs : ∀ k, P k → ¬ O k) : ShAt S w' O s := by
  obtain ⟨rv, vs, ov, h1, h2, h3, h4, h5, h6⟩ := h
  exact ⟨rv, vs, ov, h1.off ho (fun e => hs _ e h2) (fun g hg e => hs _ e (h3 g hg)) (fun v hv => (h4 v hv).mono fun b hb e => hs _ e hb) (h5.mono fun b hb e => hs _ e hb), h2, h3, h4, h5, fun k hk => Nat.lt_of_lt_of_le (h6 k hk) ho.size⟩
theorem ShAt.lt {k : Nat} (h : ShAt S w O s) (hk : O k) : k < w.heap.size := by
  obtain ⟨rv, vs, ov, h1, h2, h3, h4, h5, h6⟩ := h
  exact h6 k hk
theorem ShIn.setGets (h : ShIn w S rv vs ov s) (x : Int) : ShIn (w.setCell ⟨S, 4, none⟩ (.int .i64 x)) S rv vs ov { s with gets := x } := by
  have ho : Off (· = S) w (w.setCell ⟨S, 4, none⟩ (.int .i64 x)) := (Off.refl (· = S) w).setCell (p := ⟨S, 4, none⟩) rfl _
  have oc : ∀ k, k ≠ 4 → (w.setCell ⟨S, 4, none⟩ (.int .i64 x)).cell? ⟨S, k, none⟩ = w.cell? ⟨S, k, none⟩ := fun k hk => World.cell?_setCell_other _ _ _ _ (fun e => by injection e with _ e2; omega)
  exact ⟨(oc 0 (by omega)).trans h.c0, (oc 1 (by omega)).trans h.c1, (oc 2 (by omega)).trans h.c2, (oc 3 (by omega)).trans h.c3, World.cell?_setCell_same _ _ _ h.c4, fun k => (World.frozen?_setCell _ _ _ _).trans (h.fr k),
    row_off h.row ho (fun g hg e => h.neR (by rw [hg, e])), h.len, fun i v b e1 e2 => (h.it i v b e1 e2).offP ho ((h.neI v (List.mem_of_getElem? e1)).mono fun b hb => hb.1), h.ot.offP ho (h.neO.mono fun b hb => hb.1), h.neR, h.neI, h.neO, h.sz, fun k hk => (oc k (by omega)).trans (h.big k hk)⟩
end
theorem shGet_none {S : Nat} {w w' : World} {O : Nat → Prop} {s : ShS} {a : Int × Int} {s' : ShS} (h : shK.get s a = (s', [], 20)) (h1 : ShAt S w' O s') (h2 : Off O w w') : GePost (ShAt S) shK w O s a (.returned (.tuple #[.slice none 0 0, .int .i64 20])) w' := by
  unfold GePost
  rw [h]
  exact ⟨_, rfl, h1, h2, ⟨none, 0, 0, rfl, Nat.le_refl _, SBy.nil _ _, fun a e => (by cases e)⟩, fun b o n c e => (by cases e), by simp⟩
theorem shGet_some {S : Nat} {w w' : World} {O : Nat → Prop} {s : ShS} {a : Int × Int} {s' : ShS} {L : Bytes} {v : Value} (h : shK.get s a = (s', L, 0)) (h1 : ShAt S w' O s') (h2 : Off O w w') (h3 : SlA w' v L) (h4 : ∀ b o n c, v = .slice (some ⟨b, o, none⟩) n c → w.heap.size ≤ b) (h5 : L.length ≤ 2 ^ 40) :
    GePost (ShAt S) shK w O s a (.returned (.tuple #[v, .int .i64 0])) w' := by
  unfold GePost
  rw [h]
  exact ⟨_, rfl, h1, h2, h3, h4, h5⟩
set_option maxRecDepth 100000 in
set_option maxHeartbeats 4000000 in
theorem shGet_any {S : Nat} {w : World} {O : Nat → Prop} {s : ShS} (a : Int × Int) (h : ShAt S w O s) : Calls Tryz.prog 229 #[.pointer (some ⟨S, 0, none⟩), addrV a] w (GePost (ShAt S) shK w O s a) := by
  obtain ⟨rv, vs, ov, h1, h2, h3, h4, h5, h6⟩ := h
  obtain ⟨a0, a1⟩ := a
  obtain ⟨Ar, cr, hrv⟩ : ∃ Ar cr, rv = .slice Ar vs.length cr := by
    rcases h1.row.2 with ⟨rfl, h0⟩ | ⟨g, cap, cur, rfl, _⟩
    · exact ⟨_, _, by rw [h0]⟩
    · exact ⟨_, _, rfl⟩
  have hlen := h1.len
  have HI := Lib.hid h1
  have HS := Lib.hid h2
  have H3 := Lib.hid h3
  have H4 := Lib.hid h4
  have H5 := Lib.hid h5
  have H6 := Lib.hid h6
  have q4 := h1.c4
  have f4 := h1.fr 4
  have lS := h1.lt
  clear h1 h2 h3 h4 h5 h6
  unfold addrV
  go_enter Tryz.func229, Tryz.ntmps229
  go_upto_region 2 with (fail)
  refine wp_forget (fun V => ShIn V S rv vs ov { s with gets := inc64 s.gets } ∧ BoxA V w.heap.size (a0, a1) ∧ Off O w V) ?_ ?_
  · have hal := fun (W : World) (o : Obj) => (Below.refl W.heap.size W).alloc (Nat.le_refl _) o
    have e1 : (w.setCell ⟨S, 4, none⟩ (.int .i64 (wrap64 (s.gets + 1)))).heap.size = w.heap.size := by simp
    have hb := BoxA.new (w.setCell ⟨S, 4, none⟩ (.int .i64 (wrap64 (s.gets + 1)))) 149 (a0, a1)
    rw [e1] at hb
    exact ⟨(HI.out.setGets (inc64 s.gets)).up (hal _ _), hb, ((Off.refl O w).setCell (p := ⟨S, 4, none⟩) HS.out _).step (hal _ _)⟩
  rintro V ⟨hi, hb, ho⟩
  have HI2 := Lib.hid hi
  have HO := Lib.hid ho
  have HAT : Hid (∀ W, Below V.heap.size V W → ShAt S W O { s with gets := inc64 s.gets } ∧ Off O w W) := Lib.hid (fun W hbb => ⟨⟨rv, vs, ov, hi.up hbb, HS.out, H3.out, H4.out, H5.out, fun k hk => Nat.lt_of_lt_of_le (H6.out k hk) (Nat.le_trans ho.size hbb.size)⟩, ho.step hbb⟩)
  have b0 := hb.1
  have b1 := hb.2.1
  simp only at b0 b1
  have lB := hb.lt
  have q0 := hi.c0
  have q1 := hi.c1
  have q2 := hi.c2
  have lS2 := hi.lt
  rw [hrv] at q0
  have HRV := Lib.hid hrv
  have hsz := hi.sz
  have HSZ := Lib.hid hsz
  have hL31 := hsz.1
  simp only at hL31
  clear hi hb ho q4 f4 HI hrv hsz
  have HG : Hid (shK.get s (a0, a1) = if a0 < 1 ∨ (s.L.length : Int) < a0 then ({ s with gets := inc64 s.gets }, [], 20)
    else if a1 ≠ 13 + ((s.L.getD (a0 - 1).toNat []).length : Int) then ({ s with gets := inc64 s.gets }, [], 20)
    else ({ s with gets := inc64 s.gets }, if s.bad = a0 - 1 then s.other else s.L.getD (a0 - 1).toNat [], 0)) := Lib.hid rfl
  rw [← hlen] at HG hL31
  have HLEN := Lib.hid hlen
  clear hlen
  by_cases g1 : a0 < 1
  · have hg := HG.out
    rw [if_pos (.inl g1)] at hg
    have HG2 := Lib.hid hg
    clear hg HG
    refine wp_region_up (by kernel_rfl) (by kernel_rfl) ?_
    repeat (go_big_quiet_step (fail))
    refine wpQuiet_nil ?_
    rintro _ ⟨g, rfl⟩
    go_wp2
    go_ret2
    exact shGet_none HG2.out (HAT.out _ g.h).1 (HAT.out _ g.h).2
  by_cases g2 : (vs.length : Int) < a0
  · have hg := HG.out
    rw [if_pos (.inr g2)] at hg
    have HG2 := Lib.hid hg
    clear hg HG
    refine wp_region_up (by kernel_rfl) (by kernel_rfl) ?_
    repeat (go_big_quiet_step (fail))
    refine wpQuiet_nil ?_
    rintro _ ⟨g, rfl⟩
    go_wp2
    go_ret2
    exact shGet_none HG2.out (HAT.out _ g.h).1 (HAT.out _ g.h).2
  obtain ⟨j, hj⟩ : ∃ j : Nat, a0 = (j : Int) + 1 := ⟨(a0 - 1).toNat, by omega⟩
  subst hj
  have hjl : j < vs.length := by omega
  obtain ⟨vj, hvj⟩ : ∃ v, vs[j]? = some v := ⟨_, List.getElem?_eq_getElem hjl⟩
  obtain ⟨bj, hbj⟩ : ∃ b, s.L[j]? = some b := ⟨_, List.getElem?_eq_getElem (by rw [← HLEN.out]; exact hjl)⟩
  obtain ⟨Aj, nj, cj, rfl, hcj, hsj⟩ := HI2.out.it j _ _ hvj hbj
  obtain ⟨gr, hgr⟩ : ∃ gr, Ar = some ⟨gr, 0, none⟩ := by
    rcases HI2.out.row.2 with ⟨e, h0⟩ | ⟨g, cap, cur, e, _⟩
    · rw [h0] at hjl; simp at hjl
    · rw [HRV.out] at e
      cases e
      exact ⟨_, rfl⟩
  subst hgr
  have ck := World.ownsRow.cells HI2.out.row (g := gr) (by rw [HRV.out]; rfl) j _ hvj
  rw [show (⟨gr, 0, none⟩ : Addr).add j = ⟨gr, j, none⟩ by unfold Addr.add; split <;> simp_all] at ck
  have lG : gr < V.heap.size := lt_of_cell ck
  have hlj := hsj.1
  have hg := HG.out
  rw [if_neg (by omega), show ((j : Int) + 1 - 1).toNat = j by omega, show ((j : Int) + 1 - 1) = (j : Int) by omega, List.getD_eq_getElem?_getD, hbj] at hg
  simp only [Option.getD_some, hlj] at hg
  have HG2 := Lib.hid hg
  have HSJ := Lib.hid hsj
  have hw1 : IntKind.i64.wrap ((j : Int) + 1 - 1) = (j : Int) := by
    rw [show (j : Int) + 1 - 1 = (j : Int) by omega]
    exact IntWalk.i64_in _ (by omega)
  have hnj : nj ≤ 1000000 := by
    rw [← hlj]
    exact HSZ.out.2.1 _ (List.mem_of_getElem? hbj)
  have hjI : (j : Int) < (vs.length : Int) := by omega
  have k1 : decide ((j : Int) + 1 < 1) = false := by simp; omega
  have k2 : decide ((vs.length : Int) < (j : Int) + 1) = false := by simp; omega
  clear hg HG hsj hlj hvj hbj
  refine wp_region_up (by kernel_rfl) (by kernel_rfl) ?_
  repeat (go_big_quiet_step (fail))
  refine wpQuiet_nil ?_
  rintro _ ⟨g, rfl⟩
  go_upto_region 4 with (fail)
  refine wp_region_upW (by kernel_rfl) (by kernel_rfl) ?_
  repeat (go_big_quiet_step (fail))
  refine wpQuiet_nil ?_
  rintro _ ⟨g2, rfl⟩
  go_upto_region 5 with (fail)
  refine wp_region_upW (by kernel_rfl) (by kernel_rfl) ?_
  repeat (go_big_quiet_step (fail))
  refine wpQuiet_nil ?_
  rintro _ ⟨g3, rfl⟩
  obtain ⟨Ao, no, co, hov, _, hso⟩ := HI2.out.ot
  rw [hov] at q2
  have HSO := Lib.hid hso
  have HOV := Lib.hid hov
  clear hso hov
  obtain ⟨Ax, nx, cx, Lx, hx⟩ : ∃ Ax nx cx, ∃ Lx : Bytes, (if s.bad = (j : Int) then Value.slice Ao no co else .slice Aj nj cj) = .slice Ax nx cx ∧ SBy V Ax nx Lx ∧ nx ≤ 1000000 ∧ (if s.bad = (j : Int) then s.other else bj) = Lx := by
    by_cases h : s.bad = (j : Int)
    · rw [if_pos h, if_pos h]
      exact ⟨_, _, _, _, rfl, HSO.out, by rw [← HSO.out.1]; exact HSZ.out.2.2.1, rfl⟩
    · rw [if_neg h, if_neg h]
      exact ⟨_, _, _, _, rfl, HSJ.out, hnj, rfl⟩
  obtain ⟨x1, x2, x3, x4⟩ := hx
  have HX2 := Lib.hid x2
  have HX1 := Lib.hid x1
  have HX4 := Lib.hid x4
  clear x1 x2 x4
  go_upto_if 43 with (fail)
  go_cut [6] from 43 to 47 (fun s6 wc => s6 = .slice Ax nx cx ∧ wc = g3.world)
  case first =>
    have x1 := HX1.out
    by_cases h : s.bad = (j : Int)
    · rw [if_pos h] at x1
      have HX := Lib.hid x1
      have hb := beq_iff_eq.2 h
      clear h x1 HX1
      go_wp2_with fail
      go_meet
      exact ⟨HX.out, rfl⟩
    · rw [if_neg h] at x1
      have HX := Lib.hid x1
      have hb : (s.bad == (j : Int)) = false := by simp [h]
      clear h x1 HX1
      go_wp2_with fail
      go_meet
      exact ⟨HX.out, rfl⟩
  case rest =>
  obtain ⟨rfl, rfl⟩ := hcut
  go_upto_region 7 with (fail)
  refine wp_region_upW (by kernel_rfl) (by kernel_rfl) ?_
  repeat (go_big_quiet_step (fail))
  refine wpQuiet_nil ?_
  rintro _ ⟨g4, rfl⟩
  by_cases h : a1 = 13 + (nj : Int)
  case neg =>
    have hb : (a1 != 13 + (nj : Int)) = true := by simp [h]
    have hg := HG2.out
    rw [if_pos h] at hg
    have HG3 := Lib.hid hg
    clear hg HG2 h
    go_wp2
    go_ret2
    exact shGet_none HG3.out (HAT.out _ g4.h).1 (HAT.out _ g4.h).2
  have hb : (a1 != 13 + (nj : Int)) = false := by simp [h]
  have hg := HG2.out
  rw [if_neg (fun e => e h), HX4.out] at hg
  have HG3 := Lib.hid hg
  clear hg HG2 h
  go_upto_region 9 with (fail)
  refine wp_forget (fun W => Below V.heap.size V W) g4.h ?_
  intro W1 hb1
  have HB1 := Lib.hid hb1
  have HSX := Lib.hid (HX2.out.off (S := fun _ => False) (Off.of_below hb1) (fun _ _ _ => id))
  clear hb1
  go_wp2_with (at_builtin; go_must (refine wpList_appF rfl (.tmp 62) (.tmp 63) rfl W1 (.slice (some ⟨W1.heap.size, 0, none⟩) 0 0) [] Lx rfl (FrB.lit W1) Ax nx cx rfl (HSX.out.alloc _) (by simp; omega) nx (by simp) ?_); intro A' c' w1 h1 hgg)
  have H1 := Lib.hid h1
  clear h1 hgg
  go_wp2
  go_ret2
  have hf := H1.out
  have hs := hf.slA
  exact shGet_some HG3.out (HAT.out _ (HB1.out.trans (hf.bel.mono HB1.out.size))).1 (HAT.out _ (HB1.out.trans (hf.bel.mono HB1.out.size))).2 (by simpa using hs.1) (fun b o n c e => Nat.le_trans (Nat.le_trans HO.out.size HB1.out.size) (hs.2 b o n c e)) (by rw [HX2.out.1]; omega)
end Go.Proofs.YtlhfjaagkgengaaGreat
namespace Go.Proofs.YtlhfjaagkgengaaGreat
open Go.RowKit
set_option linter.unusedVariables false
set_option linter.unusedSimpArgs false

theorem by_info : (Tryz.prog.info? 24).map (fun i => (i.zero, i.size, i.bytes)) = some (some (.slice none 0 0), 1, 24) := by kernel_rfl
theorem run_appR {w : World} {rv : Value} {vs : List Value} {g : Nat} {A : Option Addr} {n c : Nat} (hown : w.ownsRow 0 24 1 rv vs.length vs) (hc : w.cell? ⟨g, 0, none⟩ = some (.slice A n c)) (hlen : vs.length ≤ 2147483647) (ty : TypeId) :
    ∃ v' w', (Builtin.append_ #[179, 179] ty #[rv, .slice (some ⟨g, 0, none⟩) 1 1]).run Tryz.prog w = .ok v' w' ∧ w'.ownsRow 0 24 1 v' (vs ++ [Value.slice A n c]).length (vs ++ [Value.slice A n c]) ∧ w.grownBy w' rv.ownBlock ∧ (v'.ownBlock = rv.ownBlock ∨ v'.ownBlock = some w.heap.size) := by
  obtain ⟨i0, hi, hz0, hz1, hz2⟩ := info_parts by_info
  obtain ⟨v', w', hr, ho, hg, _, hat⟩ := run_append_own_at (P := Tryz.prog) w 0 179 ty 24 i0 _ 1 24 Tryz.underlying179 hi hz0 hz1 hz2 rfl (by omega) rv vs.length vs hown ⟨g, 0, none⟩ 1 1 [.slice A n c]
    rfl (fun j u hj => by
      have e : ∀ j, (⟨g, 0, none⟩ : Addr).add j = ⟨g, j, none⟩ := fun j => by unfold Addr.add; split <;> simp_all
      rw [e]
      match j, hj with
      | 0, hj => simp at hj; rw [hc, hj]) (fun u hu => by
      simp only [List.mem_singleton] at hu
      subst hu
      simp [Value.oneCell']) (by unfold maxLen; omega) (by omega) (Nat.zero_le _)
  refine ⟨v', w', hr, ?_, hg, hat⟩
  rw [List.length_append]
  exact ho
theorem step_appR {ops : Array Oper} {o : Oper} {a : Act} {w : World} {K : Act → World → Prop} {Q : Exit → Act → World → Prop} {E : Prop} (hgd : o.guard = none) (sl x : Operand)
    (ho : o.op = .call { callee := .builtin .append, args := #[sl, x], argTypes := #[179, 179] }) (rv : Value) (vs : List Value) (g : Nat) (A : Option Addr) (n c : Nat) (hs : a.eval sl = rv) (hown : w.ownsRow 0 24 1 rv vs.length vs) (hx : a.eval x = .slice (some ⟨g, 0, none⟩) 1 1)
    (hc : w.cell? ⟨g, 0, none⟩ = some (.slice A n c)) (hlen : vs.length ≤ 2147483647)
    (h : ∀ v' w', w'.ownsRow 0 24 1 v' (vs ++ [Value.slice A n c]).length (vs ++ [Value.slice A n c]) → w.grownBy w' rv.ownBlock → (v'.ownBlock = rv.ownBlock ∨ v'.ownBlock = some w.heap.size) → (∃ A2 n2 c2, v' = .slice A2 n2 c2) → K (a.put o.dst v') w') :
    if Region.wanted o (yielded ops a.tmps) = true then Oper.wp Tryz.prog o a w K Q else E := by
  have hw : Region.wanted o (yielded ops a.tmps) = true := by simp [Region.wanted, hgd]
  rw [if_pos hw]
  obtain ⟨v', w', hr, h1, h2, h3⟩ := run_appR hown hc hlen o.type
  unfold Oper.wp execOp
  simp only [ho, resolve, invoke, builtin, Sem.run_bind, Sem.run_pure, Result.andThen_ok, List.map_toArray, List.map_cons, List.map_nil, hs, hx, hr]
  refine h v' w' h1 h2 h3 ?_
  rcases h1.2 with ⟨rfl, _⟩ | ⟨g, cap, cur, rfl, _⟩
  · exact ⟨_, _, _, rfl⟩
  · exact ⟨_, _, _, rfl⟩
theorem ShIn.setFull {w : World} {S : Nat} {rv ov : Value} {vs : List Value} {s : ShS} (h : ShIn w S rv vs ov s) (x : Int) (hx : x < 9223372036854775808) : ShIn (w.setCell ⟨S, 3, none⟩ (.int .i64 x)) S rv vs ov { s with full := x } := by
  have ho : Off (· = S) w (w.setCell ⟨S, 3, none⟩ (.int .i64 x)) := (Off.refl (· = S) w).setCell (p := ⟨S, 3, none⟩) rfl _
  have oc : ∀ k, k ≠ 3 → (w.setCell ⟨S, 3, none⟩ (.int .i64 x)).cell? ⟨S, k, none⟩ = w.cell? ⟨S, k, none⟩ := fun k hk => World.cell?_setCell_other _ _ _ _ (fun e => by injection e with _ e2; omega)
  exact ⟨(oc 0 (by omega)).trans h.c0, (oc 1 (by omega)).trans h.c1, (oc 2 (by omega)).trans h.c2, World.cell?_setCell_same _ _ _ h.c3, (oc 4 (by omega)).trans h.c4, fun k => (World.frozen?_setCell _ _ _ _).trans (h.fr k),
    row_off h.row ho (fun g hg e => h.neR (by rw [hg, e])), h.len, fun i v b e1 e2 => (h.it i v b e1 e2).offP ho ((h.neI v (List.mem_of_getElem? e1)).mono fun b hb => hb.1), h.ot.offP ho (h.neO.mono fun b hb => hb.1), h.neR, h.neI, h.neO, ⟨h.sz.1, h.sz.2.1, h.sz.2.2.1, hx⟩, fun k hk => (oc k (by omega)).trans (h.big k hk)⟩
/-- One more. -/
theorem ShIn.put {V w2 w4 : World} {S : Nat} {rv ov rv' : Value} {vs : List Value} {s : ShS} {b : Bytes} {A : Option Addr} {n c : Nat} {t : TypeId} (h : ShIn V S rv vs ov s) (hr : shK.Rdy s 1) (hbl : b.length ≤ 5000) (hf : FrB V w2 (.slice A n c) b)
    (hrow : w4.ownsRow 0 24 1 rv' (vs ++ [Value.slice A n c]).length (vs ++ [Value.slice A n c])) (hg : (w2.alloc (.cells #[.slice A n c] t)).grownBy w4 rv.ownBlock) (hat : rv'.ownBlock = rv.ownBlock ∨ rv'.ownBlock = some (w2.alloc (.cells #[.slice A n c] t)).heap.size) :
    ShIn (w4.setCell ⟨S, 0, none⟩ rv') S rv' (vs ++ [Value.slice A n c]) ov { s with L := s.L ++ [b] } ∧ Off (fun k => k = S ∨ rv.ownBlock = some k) V (w4.setCell ⟨S, 0, none⟩ rv') ∧ (∀ g, rv'.ownBlock = some g → rv.ownBlock = some g ∨ V.heap.size ≤ g) ∧ VIn (fun k => V.heap.size ≤ k) (.slice A n c) ∧ SlB (w4.setCell ⟨S, 0, none⟩ rv') (.slice A n c) b := by
  have hlS := h.lt
  have hb2 := hf.bel
  have s2 := hb2.size
  have hal : Below w2.heap.size w2 (w2.alloc (.cells #[.slice A n c] t)) := (Below.refl _ _).alloc (Nat.le_refl _) _
  have o3 : Off (fun k => rv.ownBlock = some k) V w4 := ((Off.of_below hb2).step hal).trans (grown_off hg)
  have hrb := World.ownsRow.lt h.row
  have hrS : rv'.ownBlock ≠ some S := by
    rcases hat with e | e
    · rw [e]; exact h.neR
    · rw [e]; simp; omega
  have o4 : Off (fun k => k = S ∨ rv.ownBlock = some k) V (w4.setCell ⟨S, 0, none⟩ rv') := (o3.mono fun _ e => Or.inr e).trans ((Off.refl _ w4).setCell (p := ⟨S, 0, none⟩) (.inl rfl) _)
  have oc : ∀ k, k ≠ 0 → (w4.setCell ⟨S, 0, none⟩ rv').cell? ⟨S, k, none⟩ = V.cell? ⟨S, k, none⟩ := fun k hk => (World.cell?_setCell_other _ _ _ _ (fun e => by injection e with _ e2; omega)).trans (o3.cell (p := ⟨S, k, none⟩) hlS h.neR)
  have hsl := hf.slA
  have hv2 : SlB w2 (.slice A n c) b := hsl.1.slB
  have hvin := hv2.inl
  have hvV : VIn (fun k => V.heap.size ≤ k) (.slice A n c) := fun b o n c e _ => hsl.2 b o n c e
  have hv4 : SlB (w4.setCell ⟨S, 0, none⟩ rv') (.slice A n c) b := by
    refine ((hv2.up hal).offP (grown_off hg) fun b o n c e h0 e2 => ?_).offP ((Off.refl (· = S) w4).setCell (p := ⟨S, 0, none⟩) rfl _) fun b o n c e h0 e2 => ?_
    · have := hvV b o n c e h0
      have := (hrb b e2).2
      omega
    · have := hvV b o n c e h0
      omega
  refine ⟨⟨World.cell?_setCell_same _ _ _ ((o3.cell (p := ⟨S, 0, none⟩) hlS h.neR).trans h.c0), (oc 1 (by omega)).trans h.c1, (oc 2 (by omega)).trans h.c2, (oc 3 (by omega)).trans h.c3, (oc 4 (by omega)).trans h.c4, fun k => (World.frozen?_setCell _ _ _ _).trans ((o3.frozen (p := ⟨S, k, none⟩) hlS h.neR).trans (h.fr k)),
    row_off hrow ((Off.refl (· = S) w4).setCell (p := ⟨S, 0, none⟩) rfl _) (fun g hg e => hrS (by rw [hg, e])), by simp [h.len], fun i v bb e1 e2 => ?_, h.ot.offP o4 (h.neO.mono fun k hk e => e.elim hk.1 hk.2), hrS, fun v hv => ?_, ?_, ⟨?_, ?_, h.sz.2.2⟩, fun k hk => (oc k (by omega)).trans (h.big k hk)⟩, o4, fun g hgg => ?_, hvV, hv4⟩
  · rw [List.getElem?_append] at e1 e2
    split at e1
    · rename_i hi
      rw [if_pos (by rw [← h.len]; exact hi)] at e2
      exact (h.it i v bb e1 e2).offP o4 ((h.neI v (List.mem_of_getElem? e1)).mono fun k hk e => e.elim hk.1 hk.2)
    · rename_i hi
      rw [if_neg (by rw [← h.len]; exact hi), ← h.len] at e2
      have : i - vs.length = 0 := by
        rcases Nat.eq_zero_or_pos (i - vs.length) with h0 | h0
        · exact h0
        · rw [List.getElem?_eq_none (by simp; omega)] at e1; cases e1
      rw [this] at e1 e2
      simp at e1 e2
      subst e1 e2
      exact hv4
  · rcases List.mem_append.1 hv with hv | hv
    · intro k o n' c' e h0
      obtain ⟨k1, k2⟩ := h.neI v hv k o n' c' e h0
      refine ⟨k1, ?_⟩
      rcases hat with e | e
      · rw [e]; exact k2
      · rw [e]
        obtain ⟨i, hi, hie⟩ := List.getElem_of_mem hv
        have hL : i < s.L.length := by rw [← h.len]; exact hi
        have := (h.it i v _ (by rw [List.getElem?_eq_getElem hi, hie]) (List.getElem?_eq_getElem hL)).inl k o n' c' (by assumption) h0
        simp
        omega
    · rw [List.mem_singleton.1 hv]
      intro k o n' c' e h0
      have k1 := hvV k o n' c' e h0
      have k2 := hvin k o n' c' e h0
      refine ⟨by omega, ?_⟩
      rcases hat with e | e
      · rw [e]
        intro e2
        have := (hrb k e2).2
        omega
      · rw [e]
        simp
        omega
  · intro k o n' c' e h0
    obtain ⟨k1, k2⟩ := h.neO k o n' c' e h0
    refine ⟨k1, ?_⟩
    rcases hat with e | e
    · rw [e]; exact k2
    · rw [e]
      have := h.ot.inl k o n' c' (by assumption) h0
      simp
      omega
  · have := hr.1
    simp
    omega
  · intro x hx
    rcases List.mem_append.1 hx with hx | hx
    · exact h.sz.2.1 x hx
    · rw [List.mem_singleton.1 hx]; omega
  · rcases hat with e | e
    · rw [e] at hgg; exact .inl hgg
    · rw [e] at hgg
      simp at hgg
      omega
theorem shPut_no {S : Nat} {w w' : World} {O : Nat → Prop} {s : ShS} {b : Bytes} (h0 : s.full = 0) (h1 : ShAt S w' O s) (h2 : Off O w w') : PuPost (ShAt S) shK w O s b (.returned (.tuple #[.agg #[.int .i64 0, .int .i64 0], .int .i64 7])) w' := by
  have e : shK.put s b = (s, (0, 0), 7) := by simp only [shK]; rw [if_pos h0]
  unfold PuPost
  rw [e]
  exact ⟨O, rfl, h1, h2, fun k e => .inl e⟩
theorem shPut_yes {S : Nat} {w V V5 W : World} {O : Nat → Prop} {s : ShS} {b : Bytes} {rv rv' ov : Value} {vs : List Value} {f' : Int} {nv : Nat} {x : Value} (h0 : ¬ s.full = 0) (hf : f' = if 0 < s.full then s.full - 1 else s.full) (hnv : nv = b.length) (hlen : vs.length = s.L.length) (hof : Off (· = S) w V) (hVs : w.heap.size < V.heap.size)
    (hi : ShIn V5 S rv' (vs ++ [x]) ov { s with L := s.L ++ [b], full := f' }) (ho : Off (fun k => k = S ∨ rv.ownBlock = some k) V V5) (hrv : ∀ g, rv'.ownBlock = some g → rv.ownBlock = some g ∨ V.heap.size ≤ g) (hx : VIn (fun k => V.heap.size ≤ k) x) {V4 : World} (_ : SlB V4 x b)
    (hW : Off (· = w.heap.size) V5 W) (hS : O S) (h3 : ∀ g, rv.ownBlock = some g → O g) (h4 : ∀ v ∈ vs, VIn O v) (h5 : VIn O ov) (h6 : ∀ k, O k → k < w.heap.size) :
    PuPost (ShAt S) shK w O s b (.returned (.tuple #[.agg #[.int .i64 ((vs.length : Int) + 1), .int .i64 (13 + (nv : Int))], .int .i64 0])) W := by
  have e : shK.put s b = ({ s with L := s.L ++ [b], full := f' }, ((vs.length : Int) + 1, 13 + (nv : Int)), 0) := by
    simp only [shK]
    rw [if_neg h0, hf, hlen, hnv]
  unfold PuPost
  rw [e]
  have s1 := hof.size
  have s2 := ho.size
  have s3 := hW.size
  have hrl := World.ownsRow.lt hi.row
  have nS : S ≠ w.heap.size := by have := h6 _ hS; omega
  have hx5 : VIn (fun k => k < V5.heap.size) x := by
    obtain ⟨i, hi2⟩ : ∃ i, (vs ++ [x])[i]? = some x := ⟨vs.length, by simp⟩
    have hi3 : (s.L ++ [b])[i]? ≠ none := by
      intro h
      have h7 := (List.getElem?_eq_some_iff.1 hi2).1
      rw [List.getElem?_eq_none_iff] at h
      simp at h h7
      omega
    obtain ⟨bb, hbb⟩ := Option.ne_none_iff_exists'.1 hi3
    exact (hi.it i x bb hi2 hbb).inl
  have hrO : ∀ g, rv'.ownBlock = some g → (O g ∨ (V.heap.size ≤ g ∧ g < W.heap.size)) ∧ g ≠ w.heap.size := fun g hg => by
    have h7 := (hrl g hg).2
    rcases hrv g hg with e | e
    · have h8 := h3 g e
      have := h6 g h8
      exact ⟨.inl h8, by omega⟩
    · exact ⟨.inr ⟨e, by omega⟩, by omega⟩
  have hxO : VIn (fun g => (O g ∨ (V.heap.size ≤ g ∧ g < W.heap.size)) ∧ g ≠ w.heap.size) x := fun k o n c e h0 => by
    have h7 := hx k o n c e h0
    have h8 := hx5 k o n c e h0
    exact ⟨.inr ⟨h7, by omega⟩, by omega⟩
  have hOO : ∀ g, O g → (O g ∨ (V.heap.size ≤ g ∧ g < W.heap.size)) ∧ g ≠ w.heap.size := fun g hg => ⟨.inl hg, by have := h6 g hg; omega⟩
  have hvO : ∀ v ∈ vs ++ [x], VIn (fun g => (O g ∨ (V.heap.size ≤ g ∧ g < W.heap.size)) ∧ g ≠ w.heap.size) v := fun v hv => by
    rcases List.mem_append.1 hv with hv | hv
    · exact (h4 v hv).mono hOO
    · rw [List.mem_singleton.1 hv]; exact hxO
  refine ⟨fun k => O k ∨ (V.heap.size ≤ k ∧ k < W.heap.size), rfl, ⟨rv', vs ++ [x], ov, hi.off hW nS (fun g hg => (hrO g hg).2) (fun v hv => (hvO v hv).mono fun b hb => hb.2) (h5.mono fun b hb => (hOO b hb).2), .inl hS, fun g hg => (hrO g hg).1, fun v hv => (hvO v hv).mono fun b hb => hb.1, h5.mono fun b hb => .inl hb, fun k hk => hk.elim (fun e => by have := h6 k e; omega) (fun e => e.2)⟩, ?_, fun k hk => hk.imp id (fun e => by omega)⟩
  exact ((hof.mono fun k e => by rw [e]; exact hS).trans (ho.mono fun k e => e.elim (fun e => by rw [e]; exact hS) (h3 k))).late hW fun i hi e => by omega
set_option maxRecDepth 100000 in
set_option maxHeartbeats 4000000 in
theorem shPut_any {S : Nat} {w : World} {O : Nat → Prop} {s : ShS} {v : Value} {b : Bytes} (h : ShAt S w O s) (hr : shK.Rdy s 1) (hv : SlA w v b) (hbl : b.length ≤ 5000) : Calls Tryz.prog 230 #[.pointer (some ⟨S, 0, none⟩), v] w (PuPost (ShAt S) shK w O s b) := by
  obtain ⟨rv, vs, ov, h1, h2, h3, h4, h5, h6⟩ := h
  obtain ⟨Av, nv, cv, rfl, hcv, hsv, hav⟩ := hv
  obtain ⟨Ar, cr, hrv⟩ : ∃ Ar cr, rv = .slice Ar vs.length cr := by
    rcases h1.row.2 with ⟨rfl, h0⟩ | ⟨g, cap, cur, rfl, _⟩
    · exact ⟨_, _, by rw [h0]⟩
    · exact ⟨_, _, rfl⟩
  have hnv := hsv.1
  have HI := Lib.hid h1
  have HS := Lib.hid h2
  have H3 := Lib.hid h3
  have H4 := Lib.hid h4
  have H5 := Lib.hid h5
  have H6 := Lib.hid h6
  have HSV := Lib.hid hsv
  have q3 := h1.c3
  have f3 := h1.fr 3
  have lS := h1.lt
  clear h1 h2 h3 h4 h5 h6 hsv hav
  go_enter Tryz.func230, Tryz.ntmps230
  by_cases h0 : s.full = 0
  · have hb : (s.full == 0) = true := by simp [h0]
    have H0 := Lib.hid h0
    clear h0
    go_wp2
    have hbx := (BoxA.new w 149 (0, 0)).set (0, 0)
    refine bodyPost_ret (results_addr rfl _ _ _ _ _ rfl (Box0.new w _).1.1 (Box0.new w _).1.2) rfl ?_
    have ho : Off O w (w.alloc (.cells #[.int .i64 0, .int .i64 0] 149)) := (Off.refl _ _).alloc _
    exact shPut_no H0.out (ShAt.off ⟨rv, vs, ov, HI.out, HS.out, H3.out, H4.out, H5.out, H6.out⟩ (P := fun _ => False) ((Off.refl _ _).alloc _) (fun _ => False.elim)) ho
  · have hb : (s.full == 0) = false := by simp [h0]
    have H0 := Lib.hid h0
    obtain ⟨f', hf'⟩ : ∃ f', f' = if 0 < s.full then s.full - 1 else s.full := ⟨_, rfl⟩
    have HF := Lib.hid hf'
    clear h0 hf'
    have hfl := hr.2.2.2
    by_cases hp : 0 < s.full
    case' pos =>
      have hw1 : IntKind.i64.wrap (s.full - 1) = s.full - 1 := IntWalk.i64_in _ (by omega)
    case' neg => skip
    all_goals
      go_upto_region 5 with (fail)
      refine wp_forget (fun V => ShIn V S rv vs ov { s with full := f' } ∧ BoxA V w.heap.size (0, 0) ∧ Off (· = S) w V) ?_ ?_
      · first
          | exact ⟨by rw [HF.out, if_neg hp]; exact HI.out.up ((Below.refl _ _).alloc (Nat.le_refl _) _), BoxA.new w _ (0, 0), (Off.refl _ _).alloc _⟩
          | exact ⟨by rw [HF.out, if_pos hp]; exact (HI.out.setFull (s.full - 1) (by omega)).up ((Below.refl _ _).alloc (Nat.le_refl _) _), by have := BoxA.new (w.setCell ⟨S, 3, none⟩ (.int .i64 (s.full - 1))) 149 (0, 0); rw [show (w.setCell ⟨S, 3, none⟩ (.int .i64 (s.full - 1))).heap.size = w.heap.size by simp] at this; exact this, ((Off.refl (· = S) w).setCell (p := ⟨S, 3, none⟩) rfl _).alloc _⟩
      rintro V ⟨hi, hbx, hof⟩
      have HIV := Lib.hid hi
      have HBX := Lib.hid hbx
      have HOF := Lib.hid hof
      have HVS : Hid (SBy V Av nv b) := Lib.hid (by
        have hn0 := HI.out.noBy (v := .slice Av nv cv) (L := b) ⟨_, _, _, rfl, hcv, HSV.out⟩
        obtain ⟨A5, n5, c5, e5, _, h5⟩ := SlB.offP (v := .slice Av nv cv) (L := b) ⟨_, _, _, rfl, hcv, HSV.out⟩ hof hn0
        cases e5
        exact h5)
      have hvl : vs.length ≤ 2147483647 := by have := hr.1; have := hi.len; simp only at this; omega
      have q0 := hi.c0
      have f0 := hi.fr 0
      rw [hrv] at q0
      have lS2 := hi.lt
      have HRV := Lib.hid hrv
      clear hi hbx hof q3 f3 hrv
      go_region_law (first
        | (refine step_appF (by rfl) _ _ (by rfl) V _ [] b (by rfl) (FrB.lit V).drew _ _ _ (by rfl) (HVS.out.up (((Below.refl _ _).alloc (Nat.le_refl _) _).drew)) (by simp; omega) nv (by simp; omega) ?_; intro A2 c2 w2 hf2; have HF2 := Lib.hid hf2; have q2 := (hf2.bel.cell (p := ⟨S, 0, none⟩) lS2).trans q0; have l2 := Nat.lt_of_lt_of_le lS2 hf2.bel.size; clear hf2)
        | (refine step_appR (by rfl) _ _ (by rfl) rv vs w2.heap.size A2 nv c2 (by rw [HRV.out]; rfl) (row_off ((HIV.out.up HF2.out.bel).row) (S := fun _ => False) (Off.of_below ((Below.refl _ _).alloc (Nat.le_refl _) _)) (fun _ _ => id)) (by rfl) (by rw [cell_of_row _ _ _ _ _ _ (heap_alloc_new w2 _)]; rfl) hvl ?_; intro v4 w4 hrow hg hat ⟨A4, n4, c4, e4⟩; subst e4; have HROW := Lib.hid hrow; have HGR := Lib.hid hg; have HAT := Lib.hid hat; have q5 := ((grown_off hg).cell (p := ⟨S, 0, none⟩) (by simp; omega) HIV.out.neR).trans ((((Below.refl w2.heap.size w2).alloc (Nat.le_refl _) _).cell (p := ⟨S, 0, none⟩) l2).trans q2); have f5 := ((grown_off hg).frozen (p := ⟨S, 0, none⟩) (by simp; omega) HIV.out.neR).trans ((((Below.refl w2.heap.size w2).alloc (Nat.le_refl _) _).frozen (p := ⟨S, 0, none⟩) l2).trans ((HF2.out.bel.frozen (p := ⟨S, 0, none⟩) lS2).trans f0)); clear hrow hg hat))
      all_goals
        go_upto_region 6 with (fail)
        have hput := HIV.out.put (rv' := .slice A4 n4 c4) (A := A2) (n := nv) (c := c2) ⟨hr.1, hr.2.1, hr.2.2.1, HIV.out.sz.2.2.2⟩ hbl HF2.out HROW.out HGR.out HAT.out
        have hn4 : n4 = vs.length + 1 := by
          rcases HROW.out.2 with ⟨e, h0⟩ | ⟨g, cap, cur, e, _⟩
          · simp at h0
          · cases e; simp
        refine wp_forget (fun W => ShIn W S (.slice A4 n4 c4) (vs ++ [Value.slice A2 nv c2]) ov { s with L := s.L ++ [b], full := f' } ∧ Off (fun k => k = S ∨ rv.ownBlock = some k) V W) ⟨hput.1, hput.2.1⟩ ?_
        rintro V5 ⟨hi5, ho5⟩
        have HI5 := Lib.hid hi5
        have HO5 := Lib.hid ho5
        have HPT := Lib.hid hput.2.2
        have hbx5 := HBX.out.off ho5 (fun e => e.elim (fun e => by omega) (fun e => by have := (World.ownsRow.lt HIV.out.row _ e).2; have := H3.out _ e; have := H6.out _ this; omega))
        have HBX5 := Lib.hid hbx5
        have p0 := hi5.c0
        have b0 := hbx5.1
        have b1 := hbx5.2.1
        have g0 := hbx5.2.2 0
        have g1 := hbx5.2.2 1
        have lS5 := hi5.lt
        have e4 : (n4 : Int) = (vs.length : Int) + 1 := by omega
        clear hput hi5 ho5 hbx5 q0 q2 q5 f0 f5 hn4 HF2 HROW HGR HAT
        go_wp2
        have hfin := HBX5.out.set ((vs.length : Int) + 1, 13 + (nv : Int))
        refine bodyPost_ret (results_addr rfl _ _ _ _ _ rfl hfin.1.1 hfin.1.2.1) rfl ?_
        exact shPut_yes H0.out HF.out (by rw [← hnv]) HIV.out.len HOF.out HBX.out.lt HI5.out HO5.out HPT.out.1 HPT.out.2.1 HPT.out.2.2 hfin.2 HS.out H3.out H4.out H5.out H6.out
end Go.Proofs.YtlhfjaagkgengaaGreat
namespace Go.Proofs.YtlhfjaagkgengaaGreat
open Go.RowKit
set_option linter.unusedVariables false
set_option linter.unusedSimpArgs false

theorem ent_of {P : Program} {f : FuncId} {fn : Func} {c : Code} (hf : P.funcs[f]? = some fn) (hname : (fn.name == "runtime.NumGoroutine") = false) (hb : fn.body = some c) (args : Array Value) (w : World) : (callFunc f args).run P w = .ok (.enter f args) w := by
  have h1 : fn.name ≠ "runtime.NumGoroutine" := by simpa using hname
  simp [callFunc, hf, h1, hb, mark]
def shM (S : Nat) : Snk shK where
  T := 77
  p := some ⟨S, 0, none⟩
  fg := 229
  fp := 230
  nilG := fun n w => by kernel_rfl
  nilP := fun n w => by kernel_rfl
  metG := fun n w => by kernel_rfl
  metP := fun n w => by kernel_rfl
  entG := ent_of Tryz.func229 (by kernel_rfl) rfl
  entP := ent_of Tryz.func230 (by kernel_rfl) rfl
  At := ShAt S
  off := fun h ho hs => h.off ho hs
  lt := fun h hk => h.lt hk
  get := fun a h => shGet_any a h
  put := fun h hr hv hb => shPut_any h hr hv hb
def sh0 : ShS := ⟨[], -1, [], -1, 0⟩
theorem sh0_rdy {n : Nat} (h : n ≤ 2147483647) : shK.Rdy sh0 n := ⟨by show 0 + n ≤ _; omega, fun b hb => (by cases hb), by show 0 ≤ _; omega, by show (-1 : Int) < _; omega⟩
def ShNew (w : World) (e : Ending) (w' : World) : Prop := e = .returned (.pointer (some ⟨w.heap.size, 0, none⟩)) ∧ Below w.heap.size w w' ∧ w'.heap.size = w.heap.size + 1 ∧ ShAt w.heap.size w' (· = w.heap.size) sh0
set_option maxRecDepth 100000 in
theorem newShelf_any (w : World) : Calls Tryz.prog 58 #[] w (ShNew w) := by
  go_enter Tryz.func58, Tryz.ntmps58
  go_wp2
  go_ret
  refine ⟨rfl, (Below.refl _ _).alloc (Nat.le_refl _) _, by simp, ?_⟩
  have hc : ∀ k v, (#[.slice none 0 0, .int .i64 (-1), .slice none 0 0, .int .i64 (-1), .int .i64 0] : Array Value)[k]? = some v → (w.alloc (.cells #[.slice none 0 0, .int .i64 (-1), .slice none 0 0, .int .i64 (-1), .int .i64 0] 181)).cell? ⟨w.heap.size, k, none⟩ = some v := fun k v hv => by
    rw [cell_of_row _ _ _ _ _ _ (heap_alloc_new w _)]; exact hv
  refine ⟨.slice none 0 0, [], .slice none 0 0, ⟨hc 0 _ rfl, hc 1 _ rfl, hc 2 _ rfl, hc 3 _ rfl, hc 4 _ rfl, fun k => ?_, ⟨rfl, .inl ⟨rfl, rfl⟩⟩, rfl, fun i v b h => by simp at h, ⟨none, 0, 0, rfl, Nat.le_refl _, SBy.nil _ _⟩, by simp [Value.ownBlock], fun v hv => (by cases hv), fun b o n c e => (by cases e), sh0_rdy (by omega), fun k hk => ?_⟩, rfl, fun g hg => (by cases hg), fun v hv => (by cases hv), fun b o n c e => (by cases e), fun k hk => by rw [hk]; simp⟩
  · unfold World.frozen?
    rw [heap_alloc_new]
    simp
  · rw [cell_of_row _ _ _ _ _ _ (heap_alloc_new w _)]
    simp
    omega
end Go.Proofs.YtlhfjaagkgengaaGreat
namespace Go.Proofs.YtlhfjaagkgengaaGreat
open Go.RowKit
set_option linter.unusedVariables false
set_option linter.unusedSimpArgs false

abbrev Rdr := Int × Int → Option Bytes
def SubR (a b : Rdr) : Prop := ∀ r L, a r = some L → b r = some L
theorem SubR.refl (a : Rdr) : SubR a a := fun _ _ h => h
theorem SubR.trans {a b c : Rdr} (h : SubR a b) (k : SubR b c) : SubR a c := fun r L e => k r L (h r L e)
def incN (p : Int) : Nat → Int
  | 0 => p
  | n + 1 => inc64 (incN p n)
/-- A sink that keeps what it took. -/
structure PSnk {σ : Type} (K : SnkF σ) where
  In : σ → Prop
  rd : σ → Rdr
  cnt : σ → Nat
  room : σ → Int
  ez : Int
  ez0 : ez ≠ 0
  get : ∀ s a b, In s → rd s a = some b → (K.get s a).2 = (b, 0) ∧ In (K.get s a).1 ∧ rd (K.get s a).1 = rd s ∧ cnt (K.get s a).1 = cnt s ∧ room (K.get s a).1 = room s
  put : ∀ s b, In s → K.Rdy s 1 → b.length ≤ 5000 → room s ≠ 0 → (K.put s b).2.2 = 0 ∧ In (K.put s b).1 ∧ rd (K.put s b).1 (K.put s b).2.1 = some b ∧ (K.put s b).2.1 ≠ (0, 0) ∧ SubR (rd s) (rd (K.put s b).1) ∧ cnt (K.put s b).1 = cnt s + 1 ∧ room (K.put s b).1 = if 0 < room s then room s - 1 else room s
  full : ∀ s b, In s → room s = 0 → (K.put s b).2.2 = ez ∧ (K.put s b).1 = s
/-- What a shelf tells. -/
def shRd (L : List Bytes) : Rdr := fun a => if a.1 < 1 ∨ (L.length : Int) < a.1 then none else if a.2 ≠ 13 + ((L.getD (a.1 - 1).toNat []).length : Int) then none else some (L.getD (a.1 - 1).toNat [])
theorem shRd_sub (L : List Bytes) (b : Bytes) : SubR (shRd L) (shRd (L ++ [b])) := fun a x h => by
  unfold shRd at *
  split at h
  · cases h
  · rename_i h1
    split at h
    · cases h
    · rename_i h2
      have e : (L ++ [b]).getD (a.1 - 1).toNat [] = L.getD (a.1 - 1).toNat [] := by
        rw [List.getD_eq_getElem?_getD, List.getD_eq_getElem?_getD, List.getElem?_append_left (by omega)]
      rw [if_neg (by simp; omega), e, if_neg h2]
      exact h
def shP : PSnk shK where
  In s := s.bad < 0
  rd s := shRd s.L
  cnt s := s.L.length
  room s := s.full
  ez := 7
  ez0 := by decide
  get s a b hs h := by
    unfold shRd at h
    split at h
    · cases h
    · rename_i h1
      split at h
      · cases h
      · rename_i h2
        have e : shK.get s a = ({ s with gets := inc64 s.gets }, b, 0) := by
          simp only [shK]
          rw [if_neg h1, if_neg h2, if_neg (by have : s.bad < 0 := hs; omega)]
          rw [Option.some.inj h]
        rw [e]
        exact ⟨rfl, hs, rfl, rfl, rfl⟩
  put s b hs hr hb h0 := by
    have e : shK.put s b = ({ s with L := s.L ++ [b], full := if 0 < s.full then s.full - 1 else s.full }, ((s.L.length : Int) + 1, 13 + (b.length : Int)), 0) := by
      simp only [shK]
      rw [if_neg h0]
    rw [e]
    refine ⟨rfl, hs, ?_, ?_, shRd_sub s.L b, by simp, rfl⟩
    · unfold shRd
      have e2 : (s.L ++ [b]).getD ((s.L.length : Int) + 1 - 1).toNat [] = b := by
        rw [show ((s.L.length : Int) + 1 - 1).toNat = s.L.length by omega, List.getD_eq_getElem?_getD, List.getElem?_append_right (Nat.le_refl _)]
        simp
      simp only [e2]
      rw [if_neg (by simp; omega), if_neg (by simp)]
    · intro h
      have := congrArg Prod.fst h
      simp at this
      omega
  full s b hs h0 := by
    have e : shK.put s b = (s, (0, 0), 7) := by simp only [shK]; rw [if_pos h0]
    rw [e]
    exact ⟨rfl, rfl⟩
def zeros (n : Nat) : Bytes := List.replicate n 0
theorem run_make_bytes (n : Nat) (hn : n ≤ 2 ^ 24) (w : World) :
    (Instr.makeSlice 24 (.int .i64 (n : Int)) (.int .i64 (n : Int))).run Tryz.prog w = .ok (.slice (some ⟨w.heap.size, 0, none⟩) n n) (w.alloc (.cells (madeCells #[.int .u8 0] n) 5)) := by
  obtain ⟨i0, hi, hz0, hz1, hz2⟩ := info_parts byte_info
  have h := run_make (P := Tryz.prog) w 24 5 i0 _ Tryz.underlying24 hi hz0 .i64 .i64 n n (by omega) (by omega) (by rw [hz2]; omega) (by omega)
  rw [h]
  simp [hz1, Value.cells]
theorem zeros_length (n : Nat) : (zeros n).length = n := by simp [zeros]
theorem FrB.zmade (w : World) (n : Nat) (hn : n ≤ 2 ^ 24) : FrB w (w.alloc (.cells (madeCells #[.int .u8 0] n) 5)) (.slice (some ⟨w.heap.size, 0, none⟩) n n) (zeros n) := by
  refine ⟨?_, (Below.refl _ _).alloc (Nat.le_refl _) _⟩
  have h := World.ownsRow_lit (base := w.heap.size) (e := 5) (size := 1) w (madeCells #[.int .u8 0] n) n (Nat.le_refl _) (by unfold maxLen; omega) (by rw [size_madeCells]; omega)
  unfold OwB
  rw [zeros_length]
  have e : (madeCells #[.int .u8 0] n).toList = (zeros n).map bv := by
    apply List.ext_getElem?
    intro i
    by_cases hi : i < n
    · rw [Array.getElem?_toList, made_at _ _ _ hi]
      simp [zeros, hi, Nat.mod_one, bv]
    · rw [Array.getElem?_toList, Array.getElem?_eq_none (by rw [size_madeCells]; omega), List.getElem?_eq_none (by rw [List.length_map, zeros_length]; omega)]
  rw [← e]
  exact h
/-- What it has not it refuses. -/
structure PSnk.Miss {σ : Type} {K : SnkF σ} (P : PSnk K) : Prop where
  no : ∀ s a, P.In s → P.rd s a = none → (K.get s a).2.2 = 20 ∧ P.In (K.get s a).1 ∧ P.rd (K.get s a).1 = P.rd s ∧ P.cnt (K.get s a).1 = P.cnt s ∧ P.room (K.get s a).1 = P.room s
theorem shP_miss : PSnk.Miss shP := ⟨fun s a hs h => by
  have h2 : (shRd s.L a) = none := h
  unfold shRd at h2
  simp only [shP, shK]
  split at h2
  · rename_i h1
    rw [if_pos h1]
    exact ⟨rfl, hs, rfl, rfl, rfl⟩
  · rename_i h1
    split at h2
    · rename_i h3
      rw [if_neg h1, if_pos h3]
      exact ⟨rfl, hs, rfl, rfl, rfl⟩
    · cases h2⟩
end Go.Proofs.YtlhfjaagkgengaaGreat
