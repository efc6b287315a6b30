/- Words for the walk of FramesKeys. -/
import Derived.Test.YtalnlkcmkchjdaaKP
import Derived.Test.YtalnlkcmkchjdaaTouchedWalk
import Derived.Laws.IdiomRangeMap
import Derived.Maps.RangeRun
namespace Go.Proofs.Ytalnlkcmkchjdaa
open Go.RowKit Go.Maps
set_option linter.unusedVariables false
set_option linter.unusedSimpArgs false

structure Ac where
  op : Int
  key : Int
  frame : Int
  write : Bool
/-- The slice at A holds the m acts L. -/
def SA (w : World) (A : Option Addr) (m : Nat) (L : Nat → Ac) : Prop :=
  0 < m → ∃ b o, A = some ⟨b, o, none⟩ ∧ b < w.heap.size ∧ ∀ k, k < m → (Lit.int .i64 (L k).key).wf = true ∧ w.cell? ⟨b, o + k * 4, none⟩ = some (.int .i64 (L k).op) ∧ w.cell? ⟨b, o + k * 4 + 1, none⟩ = some (.int .i64 (L k).key) ∧ w.cell? ⟨b, o + k * 4 + 2, none⟩ = some (.int .i64 (L k).frame) ∧ w.cell? ⟨b, o + k * 4 + 3, none⟩ = some (.bool (L k).write)
theorem SA.at_ {w wr : World} {A : Option Addr} {m k : Nat} {L : Nat → Ac} (h : SA w A m L) (hb : Below w.heap.size w wr) (hk : k < m) : ∃ b o, A = some ⟨b, o, none⟩ ∧ b < wr.heap.size ∧ (Lit.int .i64 (L k).key).wf = true ∧ wr.cell? ⟨b, o + k * 4, none⟩ = some (.int .i64 (L k).op) ∧ wr.cell? ⟨b, o + k * 4 + 1, none⟩ = some (.int .i64 (L k).key) ∧ wr.cell? ⟨b, o + k * 4 + 2, none⟩ = some (.int .i64 (L k).frame) ∧ wr.cell? ⟨b, o + k * 4 + 3, none⟩ = some (.bool (L k).write) := by
  obtain ⟨b, o, rfl, hl, hc⟩ := h (by omega)
  obtain ⟨h5, h0, h1, h2, h3⟩ := hc k hk
  exact ⟨b, o, rfl, Nat.lt_of_lt_of_le hl hb.size, h5, (hb.cell hl).trans h0, (hb.cell hl).trans h1, (hb.cell hl).trans h2, (hb.cell hl).trans h3⟩

/-- A map of ints. -/
def intOfV : Value → Option Int
  | .int .i64 k => some k
  | _ => none
theorem intOfV_inv {v : Value} {k : Int} (h : intOfV v = some k) : v = .int .i64 k := by
  unfold intOfV at h
  split at h
  · cases h; rfl
  · cases h
def wF (g : Int → Option Nat) (v : Value) : Option Value := (intOfV v).bind fun k => (g k).map fun (i : Nat) => .int .i64 i
theorem wF_put (g : Int → Option Nat) (k : Int) (i : Nat) : putK (wF g) (.int .i64 k) (.int .i64 i) = wF (upd g k (some i)) := by
  funext v
  unfold putK
  split
  · rename_i h; subst h; simp [wF, intOfV, upd]
  · rename_i h
    unfold wF
    cases hn : intOfV v with
    | none => rfl
    | some j =>
      have : j ≠ k := fun e => h (by rw [intOfV_inv hn, e])
      simp [upd, this]
theorem wF_del (g : Int → Option Nat) (k : Int) : delK (wF g) (.int .i64 k) = wF (upd g k none) := by
  funext v
  unfold delK
  split
  · rename_i h; subst h; simp [wF, intOfV, upd]
  · rename_i h
    unfold wF
    cases hn : intOfV v with
    | none => rfl
    | some j =>
      have : j ≠ k := fun e => h (by rw [intOfV_inv hn, e])
      simp [upd, this]
theorem wF_some (g : Int → Option Nat) (k : Int) : (wF g (.int .i64 k)).isSome = (g k).isSome := by
  simp [wF, intOfV]
theorem intKeyed : Keyed Try.prog 3 := int_keyed Try.underlying3
theorem w_look {w : World} {b c : Nat} {g : Int → Option Nat} (h : MapIs Try.prog 3 w b (wF g) c) {key : Int} (hk : (Lit.int .i64 key).wf = true) :
    (Instr.lookup 41 (.map (some b)) (.int .i64 key) true).run Try.prog w = .ok (.tuple #[.int .i64 (findI g key), .bool (g key).isSome]) w := by
  rw [h.look intKeyed Try.underlying41 (zeroInt w) (keyOf_int_mk Try.underlying3 hk) true]
  cases hg : g key <;> simp [wF, intOfV, findI, hg]

/-- The law's state. -/
structure KAt (W0 : World) (P B M Wb n : Nat) (F : Nat → Fr) (h : Nat) (g g1 : Int → Option Nat) (c1 : Nat) (wr : World) : Prop where
  pool : ∃ c, PoolAt wr P B M n F h g c
  wh : MapIs Try.prog 3 wr Wb (wF g1) c1
  ne : ¬ PB P B M Wb
  below : Below W0.heap.size W0 wr
  ge : W0.heap.size ≤ P ∧ W0.heap.size ≤ B ∧ W0.heap.size ≤ M ∧ W0.heap.size ≤ Wb
theorem KAt.up {W0 wr w' : World} {P B M Wb n : Nat} {F : Nat → Fr} {h : Nat} {g g1 : Int → Option Nat} {c1 : Nat} (k : KAt W0 P B M Wb n F h g g1 c1 wr) (hb : Below wr.heap.size wr w') : KAt W0 P B M Wb n F h g g1 c1 w' := by
  obtain ⟨c, p⟩ := k.pool
  exact ⟨⟨c, p.up hb⟩, k.wh.off (S := fun _ => False) (Off.of_below hb) id, k.ne, below_upto k.below hb (Nat.le_refl _), k.ge⟩
theorem KAt.op {W0 wr w' : World} {P B M Wb n : Nat} {F F' : Nat → Fr} {h h' : Nat} {g g' g1 : Int → Option Nat} {c1 c' : Nat} (k : KAt W0 P B M Wb n F h g g1 c1 wr) (p : PoolAt w' P B M n F' h' g' c') (ho : Off (PB P B M) wr w') : KAt W0 P B M Wb n F' h' g' g1 c1 w' :=
  ⟨⟨c', p⟩, k.wh.off ho k.ne, k.ne, below_off k.below ho k.ge.1 k.ge.2.1 k.ge.2.2.1, k.ge⟩
theorem KAt.map {W0 wr w' : World} {P B M Wb n : Nat} {F : Nat → Fr} {h : Nat} {g g1 g2 : Int → Option Nat} {c1 c2 : Nat} (k : KAt W0 P B M Wb n F h g g1 c1 wr) (hm : MapIs Try.prog 3 w' Wb (wF g2) c2) (ho : Off (· = Wb) wr w') : KAt W0 P B M Wb n F h g g2 c2 w' := by
  obtain ⟨c, p⟩ := k.pool
  refine ⟨⟨c, p.off ho (fun e => k.ne (.inl e.symm)) (fun e => k.ne (.inr (.inl e.symm))) (fun e => k.ne (.inr (.inr e.symm)))⟩, hm, k.ne, k.below.trans (ho.below (fun i e => e ▸ k.ge.2.2.2) k.below.size), k.ge⟩

/-- An act in a block of its own. -/
def ActAt (w : World) (b : Nat) (a : Ac) : Prop := w.heap[b]? = some (.cells #[.int .i64 a.op, .int .i64 a.key, .int .i64 a.frame, .bool a.write] 43 (0, 0))
theorem ActAt.cells {w : World} {b : Nat} {a : Ac} (h : ActAt w b a) : w.cell? ⟨b, 0, none⟩ = some (.int .i64 a.op) ∧ w.cell? ⟨b, 1, none⟩ = some (.int .i64 a.key) ∧ w.cell? ⟨b, 2, none⟩ = some (.int .i64 a.frame) ∧ w.cell? ⟨b, 3, none⟩ = some (.bool a.write) := by
  simp only [cell_of_row _ _ _ _ _ _ h]
  exact ⟨rfl, rfl, rfl, rfl⟩
theorem ActAt.lt {w : World} {b : Nat} {a : Ac} (h : ActAt w b a) : b < w.heap.size := (Array.getElem?_eq_some_iff.1 h).1
theorem ActAt.off {w w' : World} {b : Nat} {a : Ac} {S : Nat → Prop} (h : ActAt w b a) (ho : Off S w w') (hs : ¬ S b) : ActAt w' b a := (ho.block b h.lt hs).trans h

/-- A step of a range over a map that nobody writes. -/
theorem next_law {P : Program} {w : World} {r b : Nat} {es : Array MapEntry} {clock : Nat} {seen : Array Nat} (hr : w.heap[r]? = some (.mapIter (some b) clock seen clock)) (hb : w.heap[b]? = some (.map es clock)) (hst : MapKept.Stamped es clock) (hne : r ≠ b) :
    ((leftOf es seen).size = 0 ∧ ∀ ty, (Instr.next (.pointer (some ⟨r, 0, none⟩)) false ty).run P w = .ok (.tuple #[.bool false]) w) ∨
    ∃ (e : MapEntry) (w2 : World), e ∈ es.toList ∧ (leftOf es (seen.push e.born)).size < (leftOf es seen).size ∧ (∀ ty, (Instr.next (.pointer (some ⟨r, 0, none⟩)) false ty).run P w = .ok (.tuple #[.bool true, e.key, e.val]) w2) ∧
      (Instr.entry (.pointer (some ⟨r, 0, none⟩))).run P w2 = .ok (.tuple #[e.key, e.val]) w2 ∧ w2.heap[r]? = some (.mapIter (some b) clock (seen.push e.born) clock) ∧ Off (· = r) w w2 := by
  rcases run_next_at (P := P) w 0 r b clock clock seen es clock hr hb hst.1 (Nat.le_refl _) with ⟨h0, h1⟩ | ⟨e, he, w1, hw1, h1⟩
  · exact .inl ⟨h0, fun _ => h1⟩
  · have hlt : r < w1.heap.size := by
      have : r < w.heap.size := (Array.getElem?_eq_some_iff.1 hr).1
      rcases hw1 with rfl | rfl <;> exact this
    have hr2 : (Go.ChangeMaps.setBlock w1 r (.mapIter (some b) clock (seen.push e.born) clock)).heap[r]? = some (.mapIter (some b) clock (seen.push e.born) clock) := by simp [Go.ChangeMaps.setBlock, hlt]
    have ho : Off (· = r) w (Go.ChangeMaps.setBlock w1 r (.mapIter (some b) clock (seen.push e.born) clock)) := by
      have h2 := off_setBlock w1 r (.mapIter (some b) clock (seen.push e.born) clock) (· = r) rfl
      rcases hw1 with rfl | rfl
      · exact h2
      · exact (Off.refl _ _).drew.trans h2
    have hb2 : (Go.ChangeMaps.setBlock w1 r (.mapIter (some b) clock (seen.push e.born) clock)).heap[b]? = some (.map es clock) := (ho.block b (Array.getElem?_eq_some_iff.1 hb).1 (fun e => hne e.symm)).trans hb
    exact .inr ⟨e, _, (mem_left he).1, left_shrinks es seen e he, fun _ => h1, run_entry_at _ r b clock seen es clock e hr2 hb2 (mem_left he).1 hst.2.1, hr2, ho⟩
theorem iterSeen_of {w : World} {r : Nat} {m : Option Nat} {s c : Nat} {seen : Array Nat} (h : w.heap[r]? = some (.mapIter m s seen c)) : w.iterSeen r = seen := by
  simp [World.iterSeen, h]
end Go.Proofs.Ytalnlkcmkchjdaa
