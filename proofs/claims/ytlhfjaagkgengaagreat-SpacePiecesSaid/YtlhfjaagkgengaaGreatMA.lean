/- Helpers that hold over any program: worlds above another one; a region that draws its order and whose calls make new memory alone. Worlds that differ in some blocks alone; maps as functions from keys to elements. Bytes in memory: what a slice of bytes holds; a slice of bytes that the call owns; append onto it. A region that draws its order: first operations that are quiet in a class of worlds (loads, calls that leave a world of the class), then one operation of whatever kind (a call that writes), then moves of its results. One walk of the text's order serves every order. -/
import Derived.Test.YtlhfjaagkgengaaGreatRows
import Derived.WalkKit
import Derived.Handy
import Derived.Lib.Hide
import Derived.WalkSmall
import Derived.Deep.QuietTactic
import Derived.BigQuiet
import Derived.Deep.Slices
import Derived.Deep.Fields
import Derived.ChangeSame
import Derived.Deep.AppendLies
import Derived.Deep.Draws
import Derived.Maps.AppendAt
import Derived.RegionTactic
import Derived.OwnWalk
import Derived.WalkSpells
import Derived.Deep.DeepFit
import Derived.Deep.LoopGhost
import Derived.Deep.Cut
import Derived.Deep.DeepCutAuto
import Derived.StillTailTactics
import Derived.Deep.RegionHeld3
import Derived.Maps.OwnOps
import Derived.DeepKeys4
import Derived.Deep.Onto
import Derived.Laws.IdiomStrings
import Derived.Laws.BytesArg
import Derived.StillTail
import Derived.Deep.Quiet
namespace Go.Proofs.YtlhfjaagkgengaaGreat
open Go.RowKit
set_option linter.unusedVariables false

theorem ret_bool {a b : Bool} (h : a = b) : Ending.returned (.bool a) = .returned (.bool b) := by rw [h]
theorem ret_int {k : IntKind} {a b : Int} (h : a = b) : Ending.returned (.int k a) = .returned (.int k b) := by rw [h]

/-- A world in which all that lies in w lies unchanged. -/
structure Up (w : World) where
  world : World
  h : Below w.heap.size w world

instance (w : World) : Nonempty (Up w) := ⟨⟨w, Below.refl _ _⟩⟩
theorem Up.size {w : World} (g : Up w) : w.heap.size ≤ g.world.heap.size := g.h.size
@[simp, go_sem] theorem Up.cell {w : World} (g : Up w) {b o : Nat} (hb : b < w.heap.size) : g.world.cell? ⟨b, o, none⟩ = w.cell? ⟨b, o, none⟩ := g.h.cell (p := ⟨b, o, none⟩) hb
@[simp, go_sem] theorem Up.frozen {w : World} (g : Up w) {b o : Nat} (hb : b < w.heap.size) : g.world.frozen? ⟨b, o, none⟩ = w.frozen? ⟨b, o, none⟩ := g.h.frozen (p := ⟨b, o, none⟩) hb

theorem below_drewN {B : Nat} {a w : World} (h : Below B a w) (n : Nat) : Below B a (w.drewN n) := ⟨h.os, h.tape, h.output, h.size, h.block⟩
theorem below_upto {a b c : World} {B : Nat} (h : Below B a b) (k : Below b.heap.size b c) (hB : B ≤ a.heap.size) : Below B a c := h.trans (k.mono (Nat.le_trans hB h.size))

theorem bcell {W w1 : World} (hb : Below W.heap.size W w1) : (∀ b o, b < W.heap.size → w1.cell? ⟨b, o, none⟩ = W.cell? ⟨b, o, none⟩) ∧ (∀ b o, b < W.heap.size → w1.frozen? ⟨b, o, none⟩ = W.frozen? ⟨b, o, none⟩) :=
  ⟨fun b o h => hb.cell (p := ⟨b, o, none⟩) h, fun b o h => hb.frozen (p := ⟨b, o, none⟩) h⟩

/-- One call more, above a world W that is known whole. -/
theorem below_step {B : Nat} {W a b : World} (h : Below B W a) (k : Below a.heap.size a b) (hB : B ≤ W.heap.size) : Below B W b := below_upto h k hB
theorem bcells {B : Nat} {W a : World} (h : Below B W a) : (∀ b o, b < B → a.cell? ⟨b, o, none⟩ = W.cell? ⟨b, o, none⟩) ∧ (∀ b o, b < B → a.frozen? ⟨b, o, none⟩ = W.frozen? ⟨b, o, none⟩) :=
  ⟨fun b o hb => h.cell (p := ⟨b, o, none⟩) hb, fun b o hb => h.frozen (p := ⟨b, o, none⟩) hb⟩

/-- Of the world only R is kept. -/
theorem wp_forget {P : Program} {c : Code} {Q : Exit → Act → World → Prop} {a : Act} {w : World} (R : World → Prop) (h : R w) (H : ∀ w', R w' → c.wp P Q a w') : c.wp P Q a w := H w h

section
variable {P : Program}
/-- A region that draws its order, whose own operations only read and whose calls make new memory alone: one walk of the text's order. -/
theorem wp_region_up {id : Nat} {Q : Exit → Act → World → Prop} {a : Act} {w : World} {l : List Oper} (hm : P.follows .mixedOrders = true) (hB : Region.lexB .any l.toArray = true)
    (h : wpQuiet P l.toArray (fun w' => ∃ g : Up w, w' = g.world) (fun a' => ∀ w', (∃ g : Up w, w' = g.world) → Q .normal a' w') l a) : (Code.region id l.toArray true).wp P Q a w :=
  wp_region_quiet (C := fun w' => ∃ g : Up w, w' = g.world) hm hB ⟨⟨_, (Below.refl _ _).drew⟩, rfl⟩ (by simpa using h)

theorem Calls.up_of {f : FuncId} {args : Array Value} {w : World} {g : Up w} {v : Value}
    (h : Calls P f args g.world fun e w' => e = .returned v ∧ Below g.world.heap.size g.world w') : Calls P f args g.world fun e w'' => e = .returned v ∧ ∃ g' : Up w, w'' = g'.world :=
  h.mono fun _ w1 ⟨he, hb⟩ => ⟨he, ⟨w1, g.h.trans (hb.mono g.h.size)⟩, rfl⟩
end
end Go.Proofs.YtlhfjaagkgengaaGreat
namespace Go.Proofs.YtlhfjaagkgengaaGreat
open Go.RowKit Go.Maps Go.MapKept
open Go.ChangeMaps (setBlock modify_eq_set)
set_option linter.unusedVariables false
set_option linter.unusedSimpArgs false

/-- Of what lies in w only the blocks S may have changed. -/
structure Off (S : Nat → Prop) (w w' : World) : Prop where
  os : w'.os = w.os
  tape : w'.tape = w.tape
  output : w'.output = w.output
  size : w.heap.size ≤ w'.heap.size
  block : ∀ k, k < w.heap.size → ¬ S k → w'.heap[k]? = w.heap[k]?

theorem Off.refl (S : Nat → Prop) (w : World) : Off S w w := ⟨rfl, rfl, rfl, Nat.le_refl _, fun _ _ _ => rfl⟩
theorem Off.trans {S : Nat → Prop} {a b c : World} (h : Off S a b) (k : Off S b c) : Off S a c :=
  ⟨k.os.trans h.os, k.tape.trans h.tape, k.output.trans h.output, Nat.le_trans h.size k.size, fun i hi hs => (k.block i (Nat.lt_of_lt_of_le hi h.size) hs).trans (h.block i hi hs)⟩
theorem Off.mono {S S' : Nat → Prop} {a b : World} (h : Off S a b) (hs : ∀ k, S k → S' k) : Off S' a b :=
  ⟨h.os, h.tape, h.output, h.size, fun i hi hn => h.block i hi fun x => hn (hs i x)⟩
theorem Off.of_below {S : Nat → Prop} {a b : World} (h : Below a.heap.size a b) : Off S a b := ⟨h.os, h.tape, h.output, h.size, fun i hi _ => h.block i hi⟩
theorem Off.below {S : Nat → Prop} {a b : World} {B : Nat} (h : Off S a b) (hs : ∀ k, S k → B ≤ k) (hB : B ≤ a.heap.size) : Below B a b :=
  ⟨h.os, h.tape, h.output, h.size, fun i hi => h.block i (by omega) fun x => by have := hs i x; omega⟩
theorem Off.alloc {S : Nat → Prop} {a w : World} (h : Off S a w) (o : Obj) : Off S a (w.alloc o) := h.trans (Off.of_below ((Below.refl _ _).alloc (Nat.le_refl _) o))
theorem Off.drew {S : Nat → Prop} {a w : World} (h : Off S a w) : Off S a w.drew := ⟨h.os, h.tape, h.output, h.size, h.block⟩
theorem Off.drewN {S : Nat → Prop} {a w : World} (h : Off S a w) (n : Nat) : Off S a (w.drewN n) := ⟨h.os, h.tape, h.output, h.size, h.block⟩
theorem Off.setCell {S : Nat → Prop} {a w : World} (h : Off S a w) {p : Addr} (hp : S p.block) (u : Value) : Off S a (w.setCell p u) :=
  h.trans ⟨rfl, rfl, rfl, by simp [World.setCell], fun k hk hn => Below.heap_setCell _ _ _ _ (fun e => hn (e ▸ hp))⟩
theorem Off.step {S : Nat → Prop} {a b c : World} (h : Off S a b) (k : Below b.heap.size b c) : Off S a c := h.trans (Off.of_below k)
/-- What is new may change as well: seen from the elder world nothing more has. -/
theorem Off.late {S S' : Nat → Prop} {a b c : World} (h : Off S a b) (k : Off S' b c) (hs : ∀ i, i < a.heap.size → S' i → S i) : Off S a c :=
  ⟨k.os.trans h.os, k.tape.trans h.tape, k.output.trans h.output, Nat.le_trans h.size k.size, fun i hi hn => (k.block i (Nat.lt_of_lt_of_le hi h.size) fun x => hn (hs i hi x)).trans (h.block i hi hn)⟩
theorem Off.cell {S : Nat → Prop} {w w' : World} (h : Off S w w') {p : Addr} (hp : p.block < w.heap.size) (hs : ¬ S p.block) : w'.cell? p = w.cell? p := World.cell?_of_block (w := w) (h.block p.block hp hs)
theorem Off.frozen {S : Nat → Prop} {w w' : World} (h : Off S w w') {p : Addr} (hp : p.block < w.heap.size) (hs : ¬ S p.block) : w'.frozen? p = w.frozen? p := World.frozen?_of_block (w := w) (h.block p.block hp hs)

theorem lt_of_cell {w : World} {b o : Nat} {v : Value} (h : w.cell? ⟨b, o, none⟩ = some v) : b < w.heap.size := by
  rcases Nat.lt_or_ge b w.heap.size with h1 | h1
  · exact h1
  · simp [World.cell?, Array.getElem?_eq_none h1] at h

/-! ### maps -/
/-- Block b is a map (its keys of type k) of c entries: f tells which element a key has. -/
def MapIs (P : Program) (k : TypeId) (w : World) (b : Nat) (f : Value → Option Value) (c : Nat) : Prop :=
  ∃ es clock, w.heap[b]? = some (.map es clock) ∧ Stamped es clock ∧ es.size = c ∧ (∀ x ∈ es.toList, ∃ l, keyOf P k x.key = some l) ∧
    (∀ x ∈ es.toList, f x.key = some x.val) ∧ (∀ key v, f key = some v → ∃ x ∈ es.toList, x.key = key)

open Classical in
noncomputable def putK (f : Value → Option Value) (key v : Value) : Value → Option Value := fun x => if x = key then some v else f x
open Classical in
noncomputable def delK (f : Value → Option Value) (key : Value) : Value → Option Value := fun x => if x = key then none else f x

section
variable {P : Program} {k t e : TypeId} {w : World} {b c : Nat} {f : Value → Option Value}

theorem MapIs.lt (h : MapIs P k w b f c) : b < w.heap.size := by
  obtain ⟨es, clock, hb, _⟩ := h
  exact (Array.getElem?_eq_some_iff.1 hb).1
theorem MapIs.no_cell (h : MapIs P k w b f c) (o : Nat) : w.cell? ⟨b, o, none⟩ = none := by
  obtain ⟨es, clock, hb, _⟩ := h
  simp [World.cell?, hb]
theorem MapIs.of_block {w' : World} (h : MapIs P k w b f c) (hb : w'.heap[b]? = w.heap[b]?) : MapIs P k w' b f c := by
  obtain ⟨es, clock, h1, h2⟩ := h
  exact ⟨es, clock, hb.trans h1, h2⟩
theorem MapIs.off {w' : World} {S : Nat → Prop} (h : MapIs P k w b f c) (ho : Off S w w') (hs : ¬ S b) : MapIs P k w' b f c := h.of_block (ho.block b h.lt hs)
theorem MapIs.made (w : World) : MapIs P k (w.alloc (.map #[] 0)) w.heap.size (fun _ => none) 0 :=
  ⟨#[], 0, (MapKept.heap_alloc w _).1, stamped_empty 0, rfl, by simp, by simp, by simp⟩

theorem MapIs.look (h : MapIs P k w b f c) (K : Keyed P k) (ht : P.underlying t = some (.map k e)) {z : Value} (hz : (zeroValue e).run P w = .ok z w) {key : Value} {kl : Lit} (hkey : keyOf P k key = some kl) (ok : Bool) :
    (Instr.lookup t (.map (some b)) key ok).run P w = .ok (if ok then .tuple #[(f key).getD z, .bool (f key).isSome] else (f key).getD z) w := by
  obtain ⟨es, clock, hb, hst, hc, hk, h1, h2⟩ := h
  rcases K.find w hkey es.toList hk with ⟨g1, g2⟩ | ⟨j, e0, g1, g2, g3⟩
  · have hn : f key = none := by
      cases hf : f key with
      | none => rfl
      | some v =>
        obtain ⟨x, hx, hxk⟩ := h2 key v hf
        exact absurd hxk (g2 x hx)
    simp [Instr.lookup, run_underlying ht, MapKept.run_getObj_map hb, K.check w _ hkey, g1, hz, Result.andThen, hn]
  · have hs := h1 e0 (List.mem_of_getElem? g2)
    rw [g3] at hs
    simp [Instr.lookup, run_underlying ht, MapKept.run_getObj_map hb, K.check w _ hkey, g1, Result.andThen, hs]

theorem MapIs.len (h : MapIs P k w b f c) (ht : P.underlying t = some (.map k e)) (ty : TypeId) : (Builtin.len_ #[t] ty #[.map (some b)]).run P w = .ok (.int .i64 c) w := by
  obtain ⟨es, clock, hb, hst, hc, _⟩ := h
  rw [← hc]
  simp [Builtin.len_, run_underlying ht, MapKept.run_getObj_map hb, goInt, Result.andThen]

theorem off_setBlock (w : World) (b : Nat) (o : Obj) (S : Nat → Prop) (hs : S b) : Off S w (setBlock w b o) :=
  ⟨rfl, rfl, rfl, by simp [setBlock], fun i hi hn => by
    have : b ≠ i := fun e => hn (e ▸ hs)
    simp [setBlock, this]⟩

theorem MapIs.put (h : MapIs P k w b f c) (K : Keyed P k) (ht : P.underlying t = some (.map k e)) {key val : Value} {kl : Lit} (hkey : keyOf P k key = some kl) :
    ∃ w', (Instr.mapUpdate t (.map (some b)) key val).run P w = .ok () w' ∧ MapIs P k w' b (putK f key val) (if (f key).isSome then c else c + 1) ∧ Off (· = b) w w' := by
  have hlt := h.lt
  obtain ⟨es, clock, hb, hst, hc, hk, h1, h2⟩ := h
  rcases K.find w hkey es.toList hk with ⟨g1, g2⟩ | ⟨j, e0, g1, g2, g3⟩
  · have hn : f key = none := by
      cases hf : f key with
      | none => rfl
      | some v =>
        obtain ⟨x, hx, hxk⟩ := h2 key v hf
        exact absurd hxk (g2 x hx)
    refine ⟨setBlock w b (.map (es.push ⟨key, val, clock⟩) (clock + 1)), ?_, ⟨es.push ⟨key, val, clock⟩, clock + 1, ?_, stamped_push hst g2, ?_, ?_, ?_, ?_⟩, off_setBlock _ _ _ _ rfl⟩
    · simp [Instr.mapUpdate, run_underlying ht, MapKept.run_getObj_map hb, K.check w false hkey, g1, MapKept.run_setObj_map _ hb, Result.andThen, setBlock]
    · simp [setBlock, hlt]
    · simp [hn, hc]
    · intro x hx
      simp only [Array.toList_push, List.mem_append, List.mem_singleton] at hx
      rcases hx with hx | rfl
      · exact hk x hx
      · exact ⟨_, hkey⟩
    · intro x hx
      simp only [Array.toList_push, List.mem_append, List.mem_singleton] at hx
      rcases hx with hx | rfl
      · simp [putK, g2 x hx, h1 x hx]
      · simp [putK]
    · intro key' v hv
      simp only [Array.toList_push, List.mem_append, List.mem_singleton]
      unfold putK at hv
      split at hv
      · rename_i he
        exact ⟨_, .inr rfl, he.symm⟩
      · obtain ⟨x, hx, hxk⟩ := h2 key' v hv
        exact ⟨x, .inl hx, hxk⟩
  · have hs := h1 e0 (List.mem_of_getElem? g2)
    rw [g3] at hs
    have hj : es[j]? = some e0 := by simpa using g2
    have hlist : (es.modify j (fun e' => { e' with key := key, val := val })).toList = es.toList.set j { e0 with key := key, val := val } := by rw [Array.toList_modify, modify_eq_set _ _ _ _ g2]
    have hjl : j < es.toList.length := (List.getElem?_eq_some_iff.1 g2).1
    have hnd := hst.2.2
    have who : ∀ x ∈ es.toList.set j { e0 with key := key, val := val }, x = { e0 with key := key, val := val } ∨ (x ∈ es.toList ∧ x.key ≠ key) := by
      intro x hx
      obtain ⟨i, hi⟩ := List.mem_iff_getElem?.1 hx
      by_cases hij : j = i
      · subst hij
        rw [List.getElem?_set_self hjl] at hi
        exact .inl (Option.some.inj hi).symm
      · rw [List.getElem?_set_ne hij] at hi
        refine .inr ⟨List.mem_of_getElem? hi, fun hxk => hij ?_⟩
        have e1 : (es.toList.map (·.key))[j]? = some key := by rw [List.getElem?_map, g2]; simp [g3]
        have e2 : (es.toList.map (·.key))[i]? = some key := by rw [List.getElem?_map, hi]; simp [hxk]
        exact (List.getElem?_inj (by simpa using hjl) hnd).1 (e1.trans e2.symm)
    refine ⟨setBlock w b (.map (es.modify j (fun e' => { e' with key := key, val := val })) clock), ?_, ⟨es.modify j (fun e' => { e' with key := key, val := val }), clock, ?_, stamped_modify hst _ _ (fun _ _ => rfl) (fun e' _ he' => by rw [hj] at he'; cases he'; exact g3.symm), ?_, ?_, ?_, ?_⟩, off_setBlock _ _ _ _ rfl⟩
    · have hst' := K.stays w hkey
      simp [Instr.mapUpdate, run_underlying ht, MapKept.run_getObj_map hb, K.check w false hkey, g1, MapKept.run_setObj_map _ hb, Result.andThen, setBlock, hj, g3, hst']
    · simp [setBlock, hlt]
    · simp [hs, hc]
    · intro x hx
      rw [hlist] at hx
      rcases who x hx with rfl | ⟨hx, _⟩
      · exact ⟨_, hkey⟩
      · exact hk x hx
    · intro x hx
      rw [hlist] at hx
      rcases who x hx with rfl | ⟨hx, hne⟩
      · simp [putK]
      · simp [putK, hne, h1 x hx]
    · intro key' v hv
      rw [hlist]
      by_cases he : key' = key
      · exact ⟨{ e0 with key := key, val := val }, List.mem_iff_getElem?.2 ⟨j, List.getElem?_set_self hjl⟩, he.symm⟩
      · simp [putK, he] at hv
        obtain ⟨x, hx, hxk⟩ := h2 key' v hv
        obtain ⟨i, hi⟩ := List.mem_iff_getElem?.1 hx
        refine ⟨x, List.mem_iff_getElem?.2 ⟨i, ?_⟩, hxk⟩
        rw [List.getElem?_set_ne ?_]
        · exact hi
        · intro hij
          subst hij
          rw [g2] at hi
          cases hi
          exact he (hxk.symm.trans g3)

theorem MapIs.del (h : MapIs P k w b f c) (K : Keyed P k) (ht : P.underlying t = some (.map k e)) {key : Value} {kl : Lit} (hkey : keyOf P k key = some kl) (ty : TypeId) :
    ∃ w', (Builtin.delete_ #[t, k] ty #[.map (some b), key]).run P w = .ok (.tuple #[]) w' ∧ MapIs P k w' b (delK f key) (if (f key).isSome then c - 1 else c) ∧ Off (· = b) w w' := by
  have hlt := h.lt
  obtain ⟨es, clock, hb, hst, hc, hk, h1, h2⟩ := h
  rcases K.find w hkey es.toList hk with ⟨g1, g2⟩ | ⟨j, e0, g1, g2, g3⟩
  · have hn : f key = none := by
      cases hf : f key with
      | none => rfl
      | some v =>
        obtain ⟨x, hx, hxk⟩ := h2 key v hf
        exact absurd hxk (g2 x hx)
    refine ⟨setBlock w b (.map es clock), ?_, ⟨es, clock, ?_, hst, by simp [hn, hc], hk, ?_, ?_⟩, off_setBlock _ _ _ _ rfl⟩
    · simp [Builtin.delete_, run_underlying ht, MapKept.run_getObj_map hb, K.check w _ hkey, g1, MapKept.run_setObj_map _ hb, Result.andThen, setBlock]
    · simp [setBlock, hlt]
    · intro x hx
      simp [delK, g2 x hx, h1 x hx]
    · intro key' v hv
      unfold delK at hv
      split at hv
      · cases hv
      · exact h2 key' v hv
  · have hs := h1 e0 (List.mem_of_getElem? g2)
    rw [g3] at hs
    have hjl : j < es.toList.length := (List.getElem?_eq_some_iff.1 g2).1
    have hjs : j < es.size := by simpa using hjl
    have hsub : (es.eraseIdxIfInBounds j).toList = es.toList.eraseIdx j := by
      unfold Array.eraseIdxIfInBounds
      rw [dif_pos hjs]
      simp
    have hnd := hst.2.2
    have who : ∀ x ∈ es.toList.eraseIdx j, x ∈ es.toList ∧ x.key ≠ key := by
      intro x hx
      obtain ⟨i, hi, he⟩ := List.mem_eraseIdx_iff_getElem?.1 hx
      refine ⟨List.mem_of_getElem? he, fun hxk => hi ?_⟩
      have e1 : (es.toList.map (·.key))[j]? = some key := by rw [List.getElem?_map, g2]; simp [g3]
      have e2 : (es.toList.map (·.key))[i]? = some key := by rw [List.getElem?_map, he]; simp [hxk]
      exact ((List.getElem?_inj (by simpa using hjl) hnd).1 (e1.trans e2.symm)).symm
    refine ⟨setBlock w b (.map (es.eraseIdxIfInBounds j) clock), ?_, ⟨es.eraseIdxIfInBounds j, clock, ?_, stamped_erase hst j, ?_, ?_, ?_, ?_⟩, off_setBlock _ _ _ _ rfl⟩
    · simp [Builtin.delete_, run_underlying ht, MapKept.run_getObj_map hb, K.check w _ hkey, g1, MapKept.run_setObj_map _ hb, Result.andThen, setBlock]
    · simp [setBlock, hlt]
    · have : (es.eraseIdxIfInBounds j).toList.length = es.toList.length - 1 := by rw [hsub, List.length_eraseIdx_of_lt hjl]
      rw [hs, ← Array.length_toList, this, ← hc]
      simp
    · intro x hx
      rw [hsub] at hx
      exact hk x (who x hx).1
    · intro x hx
      rw [hsub] at hx
      simp [delK, (who x hx).2, h1 x (who x hx).1]
    · intro key' v hv
      unfold delK at hv
      split at hv
      · cases hv
      · rename_i hne
        obtain ⟨x, hx, hxk⟩ := h2 key' v hv
        rw [hsub]
        obtain ⟨i, hi⟩ := List.mem_iff_getElem?.1 hx
        refine ⟨x, List.mem_eraseIdx_iff_getElem?.2 ⟨i, ?_, hi⟩, hxk⟩
        intro hij
        subst hij
        rw [g2] at hi
        cases hi
        exact hne (hxk.symm.trans g3)
end

/-- delete, its run being known. -/
theorem wpList_delete_run {P : Program} {w w' : World} {ops : Array Oper} {rest : List Oper} {o : Oper} {a : Act} {Q : Exit → Act → World → Prop} (hgd : o.guard = none) (m x : Operand) (t k : TypeId)
    (ho : o.op = .call { callee := .builtin .delete, args := #[m, x], argTypes := #[t, k] }) (mv key : Value) (hm : a.eval m = mv) (hx : a.eval x = key)
    (hrun : (Builtin.delete_ #[t, k] o.type #[mv, key]).run P w = .ok (.tuple #[]) w') (h : wpList P ops Q rest (a.put o.dst (.tuple #[])) w') : wpList P ops Q (o :: rest) a w := by
  refine wpList_plain hgd fun K hK => ?_
  unfold Oper.wp execOp
  simp only [ho, resolve, invoke, builtin, Sem.run_bind, Sem.run_pure, Result.andThen_ok, List.map_toArray, List.map_cons, List.map_nil, hm, hx, hrun]
  exact hK _ _ h
end Go.Proofs.YtlhfjaagkgengaaGreat
namespace Go.Proofs.YtlhfjaagkgengaaGreat
open Go.RowKit
set_option linter.unusedVariables false
set_option linter.unusedSimpArgs false

theorem alloc_at (w : World) (v : Value) (t : TypeId) : (w.alloc (.cells #[v] t)).cell? ⟨w.heap.size, 0, none⟩ = some v ∧ (w.alloc (.cells #[v] t)).frozen? ⟨w.heap.size, 0, none⟩ = false := by
  have b3 : (w.alloc (.cells #[v] t)).heap[w.heap.size]? = some (.cells #[v] t (0, 0)) := heap_alloc_new w _
  refine ⟨by rw [cell_of_row _ _ _ _ _ _ b3]; rfl, ?_⟩
  unfold World.frozen?; rw [b3]; simp
theorem results_tmp4 {fn : Func} {t u v x : Tmp} (h : fn.results = #[.tmp t, .tmp u, .tmp v, .tmp x]) (tmps : Array Value) (P : Program) (w : World) :
    (results fn tmps).run P w = .ok (.tuple #[tmps.getD t undef, tmps.getD u undef, tmps.getD v undef, tmps.getD x undef]) w := by
  simp [results, h]
abbrev Bytes := List UInt8
/-- A byte as a value. -/
def bv (x : UInt8) : Value := .int .u8 (x.toNat : Nat)
def at8 (L : Bytes) (k : Nat) : Nat := (L.getD k 0).toNat
theorem at8_lt (L : Bytes) (k : Nat) : at8 L k < 256 := UInt8.toNat_lt _
theorem at8_get {L : Bytes} {k : Nat} (h : k < L.length) : at8 L k = (L[k]).toNat := by simp [at8, h]
/-- A number as a byte. -/
def b8 (n : Nat) : UInt8 := UInt8.ofNat n
theorem b8_lt {n : Nat} (h : n < 256) : (b8 n).toNat = n := by simp [b8]; omega
theorem bv_b8 {n : Nat} (h : n < 256) : bv (b8 n) = .int .u8 n := by simp [bv, b8_lt h]
theorem b8_toNat (x : UInt8) : b8 x.toNat = x := by simp [b8]
theorem b8_at8 (L : Bytes) (k : Nat) : b8 (at8 L k) = L.getD k 0 := by simp [b8, at8]

/-- The slice at A holds the n bytes L. -/
def SBy (w : World) (A : Option Addr) (n : Nat) (L : Bytes) : Prop := L.length = n ∧ (0 < n → ∃ b o, A = some ⟨b, o, none⟩ ∧ b < w.heap.size ∧ ∀ k, k < n → w.cell? ⟨b, o + k, none⟩ = some (.int .u8 (at8 L k : Nat)))
/-- The bytes L, in a row of the call's own (from block B on). -/
def OwB (B : Nat) (w : World) (v : Value) (L : Bytes) : Prop := w.ownsRow B 5 1 v L.length (L.map bv)

theorem SBy.len {w : World} {A : Option Addr} {n : Nat} {L : Bytes} (h : SBy w A n L) : L.length = n := h.1
theorem SBy.nil (w : World) (A : Option Addr) : SBy w A 0 [] := ⟨rfl, fun h => absurd h (by omega)⟩
theorem SBy.off {S : Nat → Prop} {w w' : World} {A : Option Addr} {n : Nat} {L : Bytes} (h : SBy w A n L) (ho : Off S w w') (hs : ∀ k o, A = some ⟨k, o, none⟩ → ¬ S k) : SBy w' A n L := ⟨h.1, fun hp => by
  obtain ⟨b, o, rfl, hb, hc⟩ := h.2 hp
  exact ⟨b, o, rfl, Nat.lt_of_lt_of_le hb ho.size, fun k hk => (ho.cell hb (hs b o rfl)).trans (hc k hk)⟩⟩
theorem SBy.up {w w' : World} {A : Option Addr} {n : Nat} {L : Bytes} (h : SBy w A n L) (hb : Below w.heap.size w w') : SBy w' A n L := h.off (S := fun _ => False) (Off.of_below hb) (fun _ _ _ => id)
theorem SBy.alloc {w : World} {A : Option Addr} {n : Nat} {L : Bytes} (h : SBy w A n L) (o : Obj) : SBy (w.alloc o) A n L := h.up ((Below.refl _ _).alloc (Nat.le_refl _) o)
theorem SBy.drew {w : World} {A : Option Addr} {n : Nat} {L : Bytes} (h : SBy w A n L) : SBy w.drew A n L := h.up (Below.refl _ _).drew
theorem SBy.drewN {w : World} {A : Option Addr} {n : Nat} {L : Bytes} (h : SBy w A n L) (k : Nat) : SBy (w.drewN k) A n L := h.up (below_drewN (Below.refl _ _) k)
/-- A part of a slice. -/
theorem SBy.part {w : World} {b o n : Nat} {L : Bytes} (h : SBy w (some ⟨b, o, none⟩) n L) (i j : Nat) (hij : i ≤ j) (hj : j ≤ n) : SBy w (some ⟨b, o + i, none⟩) (j - i) ((L.drop i).take (j - i)) := by
  obtain ⟨hl, hc⟩ := h
  refine ⟨by simp [hl]; omega, fun hp => ?_⟩
  obtain ⟨b', o', he, hb, hc⟩ := hc (by omega)
  cases he
  refine ⟨b, o + i, rfl, hb, fun k hk => ?_⟩
  rw [Nat.add_assoc, hc (i + k) (by omega)]
  simp [at8, List.getD_eq_getElem?_getD, List.getElem?_take, List.getElem?_drop, hk]

section
variable {B : Nat} {w : World} {v : Value} {L : Bytes}
theorem OwB.mono (h : OwB B w v L) {B' : Nat} (hb : B' ≤ B) : OwB B' w v L := World.ownsRow.mono h hb
theorem OwB.lt (h : OwB B w v L) : ∀ k, v.ownBlock = some k → B ≤ k ∧ k < w.heap.size := World.ownsRow.lt h
theorem OwB.alloc (h : OwB B w v L) (o : Obj) : OwB B (w.alloc o) v L := World.ownsRow.alloc h o
theorem OwB.drew (h : OwB B w v L) : OwB B w.drew v L := h
theorem OwB.drewN (h : OwB B w v L) (k : Nat) : OwB B (w.drewN k) v L := h
theorem OwB.empty (B : Nat) (w : World) : OwB B w (.slice none 0 0) [] := World.ownsRow_nil _ _ _ _
theorem OwB.off (h : OwB B w v L) {S : Nat → Prop} {w' : World} (ho : Off S w w') (hs : ∀ k, v.ownBlock = some k → ¬ S k) : OwB B w' v L := by
  refine ⟨h.1, ?_⟩
  rcases h.2 with hn | ⟨g, cap, cur, rfl, hb, hgg, rest⟩
  · exact .inl hn
  · refine .inr ⟨g, cap, cur, rfl, hb, ?_, rest⟩
    rw [ho.block g (Array.getElem?_eq_some_iff.1 hgg).1 (hs g rfl)]
    exact hgg
theorem OwB.up (h : OwB B w v L) {w' : World} (hb : Below w.heap.size w w') : OwB B w' v L := h.off (S := fun _ => False) (Off.of_below hb) (fun _ _ => id)
/-- What it looks like. -/
theorem OwB.form (h : OwB B w v L) : ∃ A c, v = .slice A L.length c ∧ L.length ≤ c ∧ c ≤ maxLen ∧ SBy w A L.length L ∧ (∀ b o, A = some ⟨b, o, none⟩ → B ≤ b ∧ b < w.heap.size ∧ o = 0) := by
  rcases h.2 with ⟨rfl, h0⟩ | ⟨g, cap, cur, rfl, hb, hg, h1, h2, h3, h4⟩
  · have : L = [] := by simpa using h0
    subst this
    exact ⟨_, _, rfl, by simp, by simp, SBy.nil _ _, fun b o h => by cases h⟩
  · have hl := (Array.getElem?_eq_some_iff.1 hg).1
    refine ⟨_, _, rfl, h1, h2, ⟨rfl, fun hp => ⟨g, 0, rfl, hl, fun k hk => ?_⟩⟩, fun b o h => ?_⟩
    · have := World.ownsRow.cells h (g := g) rfl k (bv (L[k])) (by simp [hk])
      rw [show (⟨g, 0, none⟩ : Addr).add k = ⟨g, 0 + k, none⟩ by unfold Addr.add; split <;> simp_all] at this
      rw [this, at8_get hk]
      rfl
    · injection h with e
      injection e with e1 e2
      subst e1
      exact ⟨hb, hl, e2.symm⟩
theorem OwB.part {A : Option Addr} {n c : Nat} (h : OwB B w (.slice A n c) L) : L.length = n ∧ n ≤ c ∧ SBy w A n L := by
  obtain ⟨A', c', he, h1, h2, h3, _⟩ := h.form
  cases he
  exact ⟨rfl, h1, h3⟩
end

theorem byte_info : (Tryz.prog.info? 5).map (fun i => (i.zero, i.size, i.bytes)) = some (some (.int .u8 0), 1, 1) := by kernel_rfl

/-- append onto bytes that the call owns. -/
theorem run_app {B : Nat} {w : World} {v : Value} {L M : Bytes} {A : Option Addr} {m c : Nat} (hown : OwB B w v L) (hS : SBy w A m M) (hB : B ≤ w.heap.size) (hlen : L.length + m ≤ 140737488355328) (ty : TypeId) :
    ∃ v' w', (Builtin.append_ #[24, 24] ty #[v, .slice A m c]).run Tryz.prog w = .ok v' w' ∧ OwB B w' v' (L ++ M) ∧ w.grownBy w' v.ownBlock ∧ (v'.ownBlock = v.ownBlock ∨ v'.ownBlock = some w.heap.size) := by
  obtain ⟨i, hi, hz0, hz1, hz2⟩ := info_parts byte_info
  obtain ⟨hl, hc⟩ := hS
  have hne : ∃ a : Addr, A = some a ∨ m = 0 := by
    rcases Nat.eq_zero_or_pos m with h0 | hp
    · exact ⟨⟨0, 0, none⟩, .inr h0⟩
    · obtain ⟨b, o, rfl, _⟩ := hc hp
      exact ⟨_, .inl rfl⟩
  rcases Nat.eq_zero_or_pos m with h0 | hp
  · subst h0
    have : M = [] := by simpa using hl
    subst this
    refine ⟨v, w, ?_, by simpa using hown, ⟨rfl, rfl, rfl, Nat.le_refl _, fun _ _ _ => rfl⟩, .inl rfl⟩
    rcases hown.2 with ⟨rfl, h0⟩ | ⟨g, cap, cur, rfl, hb, hg, h1, h2, h3, h4⟩
    · cases A <;> simp [Builtin.append_, run_underlying Tryz.underlying24, sizeOf, typeInfo, hi, Builtin.lenOf, Builtin.firstCells, loadCells, loadCellsFrom]
    · cases A <;> simp [Builtin.append_, run_underlying Tryz.underlying24, sizeOf, typeInfo, hi, Builtin.lenOf, Builtin.firstCells, loadCells, loadCellsFrom, h1, storeCells]
  · obtain ⟨b, o, rfl, hb, hc⟩ := hc hp
    obtain ⟨v', w', hr, ho, hg, _, hat⟩ := run_append_own_at (P := Tryz.prog) w B 24 ty 5 i (.int .u8 0) 1 1 Tryz.underlying24 hi hz0 hz1 hz2 rfl (by omega) v L.length (L.map bv) hown ⟨b, o, none⟩ m c (M.map bv)
      (by simp [hl]) (fun j u hj => by
        have hj' : j < M.length := by
          rcases Nat.lt_or_ge j M.length with h | h
          · exact h
          · rw [List.getElem?_eq_none (by simpa using h)] at hj; cases hj
        rw [show (⟨b, o, none⟩ : Addr).add j = ⟨b, o + j, none⟩ by unfold Addr.add; split <;> simp_all, hc j (by omega), at8_get hj']
        simp [hj'] at hj
        rw [← hj]
        rfl) (fun u hu => by
        obtain ⟨x, _, rfl⟩ := List.mem_map.1 hu
        simp [bv, Value.oneCell']) (by unfold maxLen; omega) (by omega) hB
    refine ⟨v', w', hr, ?_, hg, hat⟩
    unfold OwB
    rw [List.length_append, List.map_append, hl]
    exact ho

/-- At the operation, in a plain region. -/
theorem wpList_app {ops : Array Oper} {rest : List Oper} {o : Oper} {a : Act} {w : World} {Q : Exit → Act → World → Prop} (hgd : o.guard = none) (s x : Operand)
    (ho : o.op = .call { callee := .builtin .append, args := #[s, x], argTypes := #[24, 24] }) (B : Nat) (v : Value) (L M : Bytes) (hs : a.eval s = v) (hown : OwB B w v L) (A : Option Addr) (m c : Nat) (hx : a.eval x = .slice A m c)
    (hS : SBy w A m M) (hB : B ≤ w.heap.size) (hlen : L.length + m ≤ 140737488355328) (n' : Nat) (hn' : L.length + m = n')
    (h : ∀ A' c' w', OwB B w' (.slice A' n' c') (L ++ M) → w.grownBy w' v.ownBlock → (Value.ownBlock (.slice A' n' c') = v.ownBlock ∨ Value.ownBlock (.slice A' n' c') = some w.heap.size) → wpList Tryz.prog ops Q rest (a.put o.dst (.slice A' n' c')) w') : wpList Tryz.prog ops Q (o :: rest) a w := by
  obtain ⟨v', w', hr, h1, h2, h3⟩ := run_app (c := c) hown hS hB hlen o.type
  obtain ⟨A', c', rfl, _⟩ := h1.form
  have hl : (L ++ M).length = n' := by rw [List.length_append, hS.1, hn']
  rw [hl] at h1 h3 hr
  refine wpList_plain hgd fun K hK => ?_
  unfold Oper.wp execOp
  simp only [ho, resolve, invoke, builtin, Sem.run_bind, Sem.run_pure, Result.andThen_ok, List.map_toArray, List.map_cons, List.map_nil, hs, hx, hr]
  exact hK _ _ (h A' c' w' h1 h2 h3)

theorem SBy.one (w : World) {x : Nat} (h : x < 256) (t : TypeId) : SBy (w.alloc (.cells #[.int .u8 (x : Nat)] t)) (some ⟨w.heap.size, 0, none⟩) 1 [b8 x] := by
  refine ⟨rfl, fun _ => ⟨w.heap.size, 0, rfl, by simp, fun k hk => ?_⟩⟩
  have : k = 0 := by omega
  subst this
  have b3 : (w.alloc (.cells #[.int .u8 (x : Nat)] t)).heap[w.heap.size]? = some (.cells #[.int .u8 (x : Nat)] t (0, 0)) := heap_alloc_new w _
  rw [cell_of_row _ _ _ _ _ _ b3]
  simp [at8, b8_lt h]
theorem SBy.oneI (w : World) {y : Int} (x : Nat) (h : x < 256) (hy : y = (x : Int)) (t : TypeId) : SBy (w.alloc (.cells #[.int .u8 y] t)) (some ⟨w.heap.size, 0, none⟩) 1 [b8 x] := by
  subst hy
  exact SBy.one w h t
theorem OwB.lit (w : World) {B : Nat} (hB : B ≤ w.heap.size) : OwB B (w.alloc (.cells #[] 5)) (.slice (some ⟨w.heap.size, 0, none⟩) 0 0) [] := World.ownsRow_made w #[] 0 hB (by simp) rfl
theorem OwB.below {B : Nat} {w w' w0 : World} {v : Value} {L : Bytes} (h : OwB B w v L) (hb : Below B w0 w) (hg : w.grownBy w' v.ownBlock) (hB : B ≤ w.heap.size) : Below B w0 w' := Below.grown hb hg hB fun k hk => (h.lt k hk).1
theorem grown_off {w w' : World} {r : Option Nat} (h : w.grownBy w' r) : Off (fun k => r = some k) w w' := ⟨h.os, h.tape, h.output, h.size, fun k hk hn => h.block k hk (fun e => hn e.symm)⟩

/-- Bytes that were made since w0, and nothing elder has changed. -/
structure FrB (w0 w : World) (v : Value) (L : Bytes) : Prop where
  own : OwB w0.heap.size w v L
  bel : Below w0.heap.size w0 w
section
variable {w0 w : World} {v : Value} {L : Bytes}
theorem FrB.size (h : FrB w0 w v L) : w0.heap.size ≤ w.heap.size := h.bel.size
theorem FrB.alloc (h : FrB w0 w v L) (o : Obj) : FrB w0 (w.alloc o) v L := ⟨h.own.alloc o, h.bel.alloc h.bel.size o⟩
theorem FrB.drew (h : FrB w0 w v L) : FrB w0 w.drew v L := ⟨h.own.drew, h.bel.drew⟩
theorem FrB.drewN (h : FrB w0 w v L) (k : Nat) : FrB w0 (w.drewN k) v L := ⟨h.own.drewN k, below_drewN h.bel k⟩
theorem FrB.up {w' : World} (h : FrB w0 w v L) (hb : Below w.heap.size w w') : FrB w0 w' v L := ⟨h.own.up hb, below_upto h.bel hb (Nat.le_refl _)⟩
theorem FrB.lit (w : World) : FrB w (w.alloc (.cells #[] 5)) (.slice (some ⟨w.heap.size, 0, none⟩) 0 0) [] := ⟨OwB.lit w (Nat.le_refl _), (Below.refl _ _).alloc (Nat.le_refl _) _⟩
theorem FrB.empty (w : World) : FrB w w (.slice none 0 0) [] := ⟨OwB.empty _ _, Below.refl _ _⟩
theorem FrB.sby {A : Option Addr} {n c : Nat} (h : FrB w0 w (.slice A n c) L) : SBy w A n L := h.own.part.2.2
theorem FrB.len {A : Option Addr} {n c : Nat} (h : FrB w0 w (.slice A n c) L) : L.length = n := h.own.part.1
theorem FrB.cap {A : Option Addr} {n c : Nat} (h : FrB w0 w (.slice A n c) L) : n ≤ c := h.own.part.2.1
/-- From an elder world's sight. -/
theorem FrB.elder {wa : World} (h : FrB w0 w v L) (hb : Below wa.heap.size wa w0) : FrB wa w v L := ⟨h.own.mono hb.size, hb.trans (h.bel.mono hb.size)⟩
end
theorem wpList_appF {ops : Array Oper} {rest : List Oper} {o : Oper} {a : Act} {w : World} {Q : Exit → Act → World → Prop} (hgd : o.guard = none) (s x : Operand)
    (ho : o.op = .call { callee := .builtin .append, args := #[s, x], argTypes := #[24, 24] }) (w0 : World) (v : Value) (L M : Bytes) (hs : a.eval s = v) (hown : FrB w0 w v L) (A : Option Addr) (m c : Nat) (hx : a.eval x = .slice A m c)
    (hS : SBy w A m M) (hlen : L.length + m ≤ 140737488355328) (n' : Nat) (hn' : L.length + m = n')
    (h : ∀ A' c' w', FrB w0 w' (.slice A' n' c') (L ++ M) → Off (fun k => v.ownBlock = some k) w w' → wpList Tryz.prog ops Q rest (a.put o.dst (.slice A' n' c')) w') : wpList Tryz.prog ops Q (o :: rest) a w :=
  wpList_app hgd s x ho w0.heap.size v L M hs hown.own A m c hx hS hown.bel.size hlen n' hn' fun A' c' w' h1 hg _ => h A' c' w' ⟨h1, hown.own.below hown.bel hg hown.bel.size⟩ (grown_off hg)

/-- A string of bytes. -/
def strB (L : Bytes) : ByteArray := ⟨L.toArray⟩
theorem strB_inj {L M : Bytes} : strB L = strB M ↔ L = M := by
  constructor
  · intro h
    have := congrArg (fun s : ByteArray => s.data.toList) h
    simpa [strB] using this
  · intro h; rw [h]
theorem strB_list (L : Bytes) : (strB L).toList = L := by rw [ByteArray.toList_eq]; simp [strB]
theorem strB_eq (L M : Bytes) : ((strB L).toList == (strB M).toList) = decide (L = M) := by
  rw [strB_list, strB_list, Bool.eq_iff_iff]
  simp
/-- string(b). -/
theorem SBy.str {w : World} {A : Option Addr} {n : Nat} {L : Bytes} (h : SBy w A n L) (c : Nat) : (convert 24 9 (.slice A n c)).run Tryz.prog w = .ok (.string (strB L)) w := by
  obtain ⟨hl, hc⟩ := h
  cases A with
  | none =>
    obtain rfl : n = 0 := by
      rcases Nat.eq_zero_or_pos n with h | h
      · exact h
      · obtain ⟨b, o, h, _⟩ := hc h
        cases h
    have : L = [] := by simpa using hl
    subst this
    exact run_convert_bytes_nil w _ _ Tryz.underlying24 Tryz.underlying5 _ _ _ Tryz.underlying9
  | some a =>
    subst hl
    refine run_convert_bytes_back w _ _ _ a c L Tryz.underlying24 Tryz.underlying5 Tryz.underlying9 fun j hj => ?_
    obtain ⟨b, o, he, hb, hcc⟩ := hc (by omega)
    cases he
    rw [show (⟨b, o, none⟩ : Addr).add j = ⟨b, o + j, none⟩ by unfold Addr.add; split <;> simp_all, hcc j hj, at8_get hj]
end Go.Proofs.YtlhfjaagkgengaaGreat
namespace Go.Proofs.YtlhfjaagkgengaaGreat
open Go Go.RowKit
set_option linter.unusedVariables false
set_option linter.unusedSimpArgs false

section
variable {P : Program} {ops : Array Oper} {md : Region.Mode} {C : World → Prop}

/-- Operations that only move values. -/
def pureB (o : Oper) : Bool := o.guard.isNone && match o.op with
  | .move _ => true
  | .assign _ => true
  | .extract _ _ => true
  | _ => false
theorem pure_run {o : Oper} (hp : pureB o = true) (P : Program) (a : Act) (w : World) : (∃ v, (execOp a.eval o).run P w = .ok (.value v) w) ∨ ∃ s, (execOp a.eval o).run P w = .halt (.stuck s) w := by
  unfold pureB at hp
  simp only [Bool.and_eq_true] at hp
  obtain ⟨_, hp⟩ := hp
  cases ho : o.op <;> rw [ho] at hp <;> simp only [Bool.false_eq_true] at hp
  case move x => exact .inl ⟨a.eval x, by unfold execOp; rw [ho]; rfl⟩
  case assign x => exact .inl ⟨a.eval x, by unfold execOp; rw [ho]; rfl⟩
  case extract t i =>
    cases ht : a.eval t
    case tuple vs =>
      cases hv : vs[i]? with
      | some v => exact .inl ⟨v, by unfold execOp; rw [ho]; simp only; rw [ht]; unfold Instr.extract; simp only; rw [hv]; rfl⟩
      | none => exact .inr ⟨_, by unfold execOp; rw [ho]; simp only; rw [ht]; unfold Instr.extract; simp only; rw [hv]; rfl⟩
    all_goals exact .inr ⟨_, by unfold execOp; rw [ho]; simp only; rw [ht]; rfl⟩
theorem pure_asks {o : Oper} (hp : pureB o = true) (P : Program) (a : Act) (w : World) : ¬ o.asks P a w := by
  unfold pureB at hp
  simp only [Bool.and_eq_true] at hp
  obtain ⟨_, hp⟩ := hp
  rintro ⟨h, _⟩
  have e : ((execOp a.eval o).runT P w #[]).2 = #[] := by
    cases ho : o.op <;> rw [ho] at hp <;> simp only [Bool.false_eq_true] at hp
    case move x => unfold execOp; rw [ho]; rfl
    case assign x => unfold execOp; rw [ho]; rfl
    case extract t i =>
      cases ht : a.eval t
      case tuple vs =>
        cases hv : vs[i]? with
        | some v => unfold execOp; rw [ho]; simp only; rw [ht]; unfold Instr.extract; simp only; rw [hv]; rfl
        | none => unfold execOp; rw [ho]; simp only; rw [ht]; unfold Instr.extract; simp only; rw [hv]; rfl
      all_goals (unfold execOp; rw [ho]; simp only; rw [ht]; rfl)
  rw [e] at h
  simp at h
theorem still_of_list {Q : Exit → Act → World → Prop} : ∀ (l : List Oper) (a : Act) (w : World), l.all pureB = true → wpList P ops Q l a w → wpStill P ops w (fun a' => Q .normal a' w) l a
  | [], a, w, _, h => h
  | o :: l, a, w, hp, h => by
    simp only [List.all_cons, Bool.and_eq_true] at hp
    have hg : o.guard = none := by
      have := hp.1
      unfold pureB at this
      simp only [Bool.and_eq_true, Option.isNone_iff_eq_none] at this
      exact this.1
    have hw : Region.wanted o (yielded ops a.tmps) = true := by simp [Region.wanted, hg]
    unfold wpList at h
    unfold wpStill
    rw [if_pos hw] at h ⊢
    rcases h with h | h
    · unfold Oper.wp at h
      unfold Oper.still
      rcases pure_run hp.1 P a w with ⟨v, hr⟩ | ⟨s, hr⟩
      · rw [hr] at h ⊢
        rw [Oper.stillUpon_value]
        exact still_of_list l _ w hp.2 h
      · rw [hr] at h
        exact h.elim
    · exact absurd h.1 (pure_asks hp.1 P a w)

/-- Each operation behind number n waits for one from n on. -/
def chainB2 (md : Region.Mode) (ops : Array Oper) (n : Nat) : Bool :=
  (List.range ops.size).all fun t => decide (t ≤ n) || (List.range t).any fun s => decide (n ≤ s) && Region.waitsFor md ops t s

theorem tail_waits2 {n : Nat} {listed : Array Bool} (hs : Region.sinkB md ops n = true) (hc : chainB2 md ops n = true) (hn : n < ops.size) (inv : HeadInv md ops n listed) :
    ∀ (d i : Nat), n - i = d → i < n → listed.getD i true = false → ∀ t, n ≤ t → t ∉ Region.ready md ops listed := by
  intro d
  induction d using Nat.strongRecOn with
  | _ d ih =>
    intro i hd hi hun t ht hr
    obtain ⟨_, ot, hot, hall⟩ := mem_ready.1 hr
    have htlt : t < ops.size := (Array.getElem?_eq_some_iff.1 hot).1
    by_cases htn : t = n
    · subst htn
      have h1 := List.all_eq_true.1 hs i (List.mem_range.2 hi)
      obtain ⟨j, hj, hj2⟩ := List.any_eq_true.1 h1
      simp only [Bool.and_eq_true, decide_eq_true_eq] at hj2
      obtain ⟨oj, hoj, e, he, hb, hon⟩ := Region.waitsFor_spec hj2.2
      have hjle : j ≤ t := by have := List.mem_range.1 hj; omega
      by_cases hjt : j = t
      · subst hjt
        have : oj = ot := Option.some.inj (hoj.symm.trans hot)
        subst this
        have h2 := hall e he hb
        rw [hon, getD_both hun] at h2
        cases h2
      · cases hl : listed.getD j false with
        | true =>
          have h2 := inv.closed j oj hoj hl e he hb
          rw [hon, getD_both hun] at h2
          cases h2
        | false =>
          have hjs : j < listed.size := by rw [inv.size]; omega
          exact ih (t - j) (by omega) j rfl (by omega) (getD_in hjs hl) t (Nat.le_refl _) hr
    · have h1 := List.all_eq_true.1 hc t (List.mem_range.2 htlt)
      simp only [Bool.or_eq_true, decide_eq_true_eq] at h1
      rcases h1 with h1 | h1
      · omega
      · obtain ⟨s, hs1, hs2⟩ := List.any_eq_true.1 h1
        simp only [Bool.and_eq_true, decide_eq_true_eq] at hs2
        have hst := List.mem_range.1 hs1
        obtain ⟨o', ho', e, he, hb, hon⟩ := Region.waitsFor_spec hs2.2
        have : o' = ot := Option.some.inj (ho'.symm.trans hot)
        subst this
        have h2 := hall e he hb
        rw [hon, getD_both (inv.tail s hs2.1 (by omega))] at h2
        cases h2

/-- Whatever order the first n come up in; then L. -/
def wpAnyLQ (P : Program) (md : Region.Mode) (ops : Array Oper) (C : World → Prop) (n : Nat) (L : Array Bool → Act → Prop) : Nat → Array Bool → Act → Prop
  | 0, listed, a => L listed a
  | f + 1, listed, a =>
    Region.ready md ops listed ≠ [] ∧ ∀ i ∈ Region.ready md ops listed, i < n ∧ qOp P ops C i (wpAnyLQ P md ops C n L f (listed.setIfInBounds i true)) a

theorem wpAny_of_headQ {n g : Nat} {L : Array Bool → Act → Prop} {Q' : Exit → Act → World → Prop} (hL : ∀ listed a w, C w → L listed a → wpAny P md ops Q' g listed a w) :
    ∀ (f : Nat) (listed : Array Bool) (a : Act) (w : World), C w → wpAnyLQ P md ops C n L f listed a → wpAny P md ops Q' (f + g) listed a w
  | 0, listed, a, w, hw, h => by rw [Nat.zero_add]; exact hL _ _ _ hw h
  | f + 1, listed, a, w, hw, h => by
    rw [show f + 1 + g = (f + g) + 1 by omega]
    exact ⟨fun h0 => absurd h0 h.1, fun i hi => wpOp_of_qOp hw (fun a' w' hw' h' => wpAny_of_headQ hL f _ a' w' hw' h') (h.2 i hi).2⟩

theorem wpAnyLQ_first {n i : Nat} {oi : Oper} {v : Value} {L : Array Bool → Act → Prop} (hi : ops[i]? = some oi) (hsel : ∀ (j : Nat) (o : Oper) cs b, ops[j]? = some o → o.op ≠ .select cs b)
    (hs : Region.sinkB md ops n = true) (hc : chainB2 md ops n = true) (hn : n < ops.size) (hin : i < n)
    (hdone : ∀ listed a, L listed a → ∀ j ∈ Region.ready md ops listed, n ≤ j) :
    ∀ (f : Nat) (listed : Array Bool) (a : Act), HeadInv md ops n listed →
      (∀ j oj, ops[j]? = some oj → j ≠ i → listed.getD j true = false → (∀ e ∈ oj.after, Region.binds md e = true → e.on ≠ i) → oi.apart ops oj = true) →
      i ∈ Region.ready md ops listed → YieldsIn P ops C oi v a →
      wpAnyLQ P md ops C n L f (listed.setIfInBounds i true) (a.put oi.dst v) → wpAnyLQ P md ops C n L (f + 1) listed a := by
  intro f
  induction f with
  | zero =>
    intro listed a inv _ hr hy H
    have hun := (mem_ready.1 hr).1
    refine ⟨fun h => (by rw [h] at hr; cases hr), fun j hj => ?_⟩
    have hjn : j < n := by
      rcases Nat.lt_or_ge j n with h | h
      · exact h
      · exact absurd hj (tail_waits2 hs hc hn inv _ i rfl hin hun j h)
    refine ⟨hjn, ?_⟩
    by_cases hji : j = i
    · subst hji; exact hy.qOp hi H
    · have := hdone _ _ H j (ready_mono hj hji)
      omega
  | succ f ih =>
    intro listed a inv hfree hr hy H
    have hun := (mem_ready.1 hr).1
    refine ⟨fun h => (by rw [h] at hr; cases hr), fun j hj => ?_⟩
    have hjn : j < n := by
      rcases Nat.lt_or_ge j n with h | h
      · exact h
      · exact absurd hj (tail_waits2 hs hc hn inv _ i rfl hin hun j h)
    refine ⟨hjn, ?_⟩
    by_cases hji : j = i
    · subst hji; exact hy.qOp hi H
    · have h1 := (H.2 j (ready_mono hj hji)).2
      obtain ⟨hjun, oj, hoj, hall⟩ := mem_ready.1 hj
      have hnot : ∀ e ∈ oj.after, Region.binds md e = true → e.on ≠ i := fun e he hb heq => by
        have h1 := hall e he hb
        rw [heq, getD_both hun] at h1
        cases h1
      have h2 := qOp_put hoj (hfree j oj hoj hji hjun hnot) (fun cs b => hsel i oi cs b hi) (fun cs b => hsel j oj cs b hoj) hy h1
      have hfree' : ∀ k ok, ops[k]? = some ok → k ≠ i → (listed.setIfInBounds j true).getD k true = false →
          (∀ e ∈ ok.after, Region.binds md e = true → e.on ≠ i) → oi.apart ops ok = true := fun k ok hk hki hun hno => by
        refine hfree k ok hk hki ?_ hno
        by_cases hjk : j = k
        · subst hjk; exact hjun
        · rw [getD_set_ne true hjk] at hun; exact hun
      refine qOp_mono (fun a' h3 => ih (listed.setIfInBounds j true) a' (inv.set hj hjn) hfree' (ready_mono hr (Ne.symm hji)) h3.1 ?_) h2
      rw [Array.setIfInBounds_comm _ _ hji]
      exact h3.2

/-- The one operation, then the rest in whatever order. -/
def oneB (md : Region.Mode) (ops : Array Oper) (g n : Nat) (listed : Array Bool) : Bool :=
  decide (Region.ready md ops listed = [n]) && Region.lexFrom md ops g (n + 1) (listed.setIfInBounds n true)
def lexHead2 (md : Region.Mode) (ops : Array Oper) (g n : Nat) : Nat → Nat → Array Bool → Bool
  | 0, _, listed => oneB md ops g n listed
  | f + 1, k, listed => (Region.ready md ops listed).contains k && Region.free md ops listed k && lexHead2 md ops g n f (k + 1) (listed.setIfInBounds k true)
def lexTail2 (md : Region.Mode) (ops : Array Oper) (n : Nat) : Bool :=
  Region.noSelect ops && decide (n < ops.size) && Region.sinkB md ops n && chainB2 md ops n && lexHead2 md ops (ops.size - n - 1) n n 0 (Array.replicate ops.size false)

theorem wpAnyLQ_lex {n g : Nat} {Lq : Act → Prop} (hsel : Region.noSelect ops = true) (hs : Region.sinkB md ops n = true) (hc : chainB2 md ops n = true) (hn : n < ops.size) :
    ∀ (l : List Oper) (k : Nat) (listed : Array Bool) (a : Act), (∀ j, j < l.length → l[j]? = ops[k + j]?) → k + l.length = n → HeadInv md ops n listed →
    lexHead2 md ops g n l.length k listed = true → wpQuiet P ops C Lq l a →
    wpAnyLQ P md ops C n (fun listed' a' => oneB md ops g n listed' = true ∧ Lq a') l.length listed a
  | [], k, listed, a, _, hk, _, hB, h => ⟨by simpa [lexHead2] using hB, h⟩
  | o :: l, k, listed, a, hl, hk, inv, hB, h => by
    have h0 : ops[k]? = some o := by simpa using (hl 0 (by simp)).symm
    simp only [List.length_cons, lexHead2, Bool.and_eq_true] at hB
    obtain ⟨⟨hr, hf⟩, hB'⟩ := hB
    have hkn : k < n := by simp only [List.length_cons] at hk; omega
    have hr' : k ∈ Region.ready md ops listed := by simpa using hr
    have hst : qOp P ops C k (wpQuiet P ops C Lq l) a := by unfold qOp; simp only [h0]; exact h
    obtain ⟨v, hy, hK⟩ := yieldsIn_of_qOp h0 hst
    exact wpAnyLQ_first h0 (Region.noSelect_spec hsel) hs hc hn hkn (fun listed' a' hL j hj => by
        have h1 := hL.1
        simp only [oneB, Bool.and_eq_true, decide_eq_true_eq] at h1
        rw [h1.1] at hj
        simp at hj
        omega) l.length listed a inv (Region.free_spec h0 hf) hr' hy
      (wpAnyLQ_lex hsel hs hc hn l (k + 1) _ _ (fun j hj => by have := hl (j + 1) (by simp; omega); simpa [Nat.add_assoc, Nat.add_comm 1 j] using this) (by simp only [List.length_cons] at hk; omega) (inv.set hr' hkn) hB' hK)

theorem wp_region_quiet_tail {id : Nat} {Q : Exit → Act → World → Prop} {a : Act} {w : World} {l : List Oper} (n : Nat) (hm : P.follows .mixedOrders = true) (hB : lexTail2 .any l.toArray n = true) (hp : (l.drop (n + 1)).all pureB = true)
    (hC : C { w with drawn := w.drawn + 1 }) (h : wpQuiet P l.toArray C (fun a' => ∀ w', C w' → wpList P l.toArray Q (l.drop n) a' w') (l.take n) a) : (Code.region id l.toArray true).wp P Q a w := by
  simp only [lexTail2, Bool.and_eq_true, decide_eq_true_eq] at hB
  obtain ⟨⟨⟨⟨hsel, hn⟩, hs⟩, hc⟩, hlex⟩ := hB
  have hn' : n < l.length := by simpa using hn
  have htl : (l.take n).length = n := by simp; omega
  have hon : l.toArray[n]? = some l[n] := by simp [hn']
  have hdl : (l.drop (n + 1)).length = l.toArray.size - n - 1 := by simp; omega
  have inv0 : HeadInv .any l.toArray n (Array.replicate l.toArray.size false) :=
    ⟨by simp, fun j oj _ hl => (by rw [getD_replicate_false] at hl; cases hl), fun t _ ht => getD_in (by simpa using ht) (getD_replicate_false _ _)⟩
  have H := wpAnyLQ_lex (P := P) (C := C) (md := .any) (g := l.toArray.size - n - 1) hsel hs hc hn (l.take n) 0 _ a (fun j hj => by
    have hj' : j < n := by rw [htl] at hj; exact hj
    simp [hj']) (by simpa using htl) inv0 (by rw [htl]; exact hlex) h
  refine wp_region_any hm ?_
  have := wpAny_of_headQ (Q' := Q) (g := l.toArray.size - n) (fun listed a' w' hw' hL => by
    obtain ⟨h1, h2⟩ := hL
    simp only [oneB, Bool.and_eq_true, decide_eq_true_eq] at h1
    have h3 := h2 w' hw'
    rw [List.drop_eq_getElem_cons hn'] at h3
    rw [show l.toArray.size - n = (l.toArray.size - n - 1) + 1 by omega]
    refine ⟨fun h0 => (by rw [h1.1] at h0; cases h0), fun i hi => ?_⟩
    rw [h1.1] at hi
    have hin : i = n := by simpa using hi
    subst hin
    have hop : wpOp P l.toArray Q i (wpList P l.toArray Q (l.drop (i + 1))) a' w' := by unfold wpOp; simp only [hon]; exact h3
    refine wpOp_mono (fun a2 w2 h4 => ?_) hop
    have h5 := still_of_list _ a2 w2 hp h4
    have h6 := wpAnyS_lex (md := .any) hsel (l.drop (i + 1)) (i + 1) (listed.setIfInBounds i true) a2 (fun j => by simp [List.getElem?_drop]) (by rw [hdl]; exact h1.2) h5
    rw [hdl] at h6
    exact wpAny_of_still (fun _ h => h) _ _ _ h6) _ _ _ _ hC H
  rw [htl, show n + (l.toArray.size - n) = l.toArray.size by omega] at this
  exact this

/-- The class: worlds above W. -/
theorem wp_region_up_tail {id : Nat} {Q : Exit → Act → World → Prop} {a : Act} {w : World} {l : List Oper} (n : Nat) (hm : P.follows .mixedOrders = true) (hB : lexTail2 .any l.toArray n = true) (hp : (l.drop (n + 1)).all pureB = true)
    (h : wpQuiet P l.toArray (fun w' => ∃ g : Up w, w' = g.world) (fun a' => ∀ w', (∃ g : Up w, w' = g.world) → wpList P l.toArray Q (l.drop n) a' w') (l.take n) a) : (Code.region id l.toArray true).wp P Q a w :=
  wp_region_quiet_tail (C := fun w' => ∃ g : Up w, w' = g.world) n hm hB hp ⟨⟨_, (Below.refl _ _).drew⟩, rfl⟩ h
/-- From a world above W on, always seen from W. -/
theorem wp_region_upW {W : World} {g : Up W} {id : Nat} {Q : Exit → Act → World → Prop} {a : Act} {l : List Oper} (hm : P.follows .mixedOrders = true) (hB : Region.lexB .any l.toArray = true)
    (h : wpQuiet P l.toArray (fun w' => ∃ g : Up W, w' = g.world) (fun a' => ∀ w', (∃ g : Up W, w' = g.world) → Q .normal a' w') l a) : (Code.region id l.toArray true).wp P Q a g.world :=
  wp_region_quiet (C := fun w' => ∃ g : Up W, w' = g.world) hm hB ⟨⟨_, g.h.drew⟩, rfl⟩ (by simpa using h)
theorem wp_region_upW_tail {W : World} {g : Up W} {id : Nat} {Q : Exit → Act → World → Prop} {a : Act} {l : List Oper} (n : Nat) (hm : P.follows .mixedOrders = true) (hB : lexTail2 .any l.toArray n = true) (hp : (l.drop (n + 1)).all pureB = true)
    (h : wpQuiet P l.toArray (fun w' => ∃ g : Up W, w' = g.world) (fun a' => ∀ w', (∃ g : Up W, w' = g.world) → wpList P l.toArray Q (l.drop n) a' w') (l.take n) a) : (Code.region id l.toArray true).wp P Q a g.world :=
  wp_region_quiet_tail (C := fun w' => ∃ g : Up W, w' = g.world) n hm hB hp ⟨⟨_, g.h.drew⟩, rfl⟩ h
/-- A call that makes memory alone, in a world above W. -/
theorem calls_upW {W : World} {g : Up W} {f : FuncId} {args : Array Value} {v : Value} {Q : Ending → World → Prop} (h : Calls P f args g.world fun e w' => e = .returned v ∧ Below g.world.heap.size g.world w') (H : ∀ g' : Up W, Q (.returned v) g'.world) : Calls P f args g.world Q :=
  h.mono fun e w' ⟨he, hb⟩ => by subst he; exact H ⟨w', g.h.trans (hb.mono g.h.size)⟩
theorem wp_upW {W : World} {c : Code} {Q : Exit → Act → World → Prop} {a : Act} (H : ∀ g : Up W, c.wp P Q a g.world) : c.wp P Q a W := H ⟨W, Below.refl _ _⟩
end
end Go.Proofs.YtlhfjaagkgengaaGreat
