/- Worlds that differ in some blocks alone; maps as functions from keys to elements. -/
import Derived.Test.YtgkdggidgaifhaaBase
import Derived.Maps.OwnOps
import Derived.DeepKeys4
namespace Go.Proofs.Ytgkdggidgaifhaa
open Go.RowKit Go.Maps Go.MapKept
open Go.ChangeMaps (setBlock modify_eq_set)
set_option linter.unusedVariables false
set_option linter.unusedSimpArgs false

/-- Of what lies in w only the blocks S may have changed. -/
structure Off (S : Nat → Prop) (w w' : World) : Prop where
  os : w'.os = w.os
  tape : w'.tape = w.tape
  output : w'.output = w.output
  size : w.heap.size ≤ w'.heap.size
  block : ∀ k, k < w.heap.size → ¬ S k → w'.heap[k]? = w.heap[k]?

theorem Off.refl (S : Nat → Prop) (w : World) : Off S w w := ⟨rfl, rfl, rfl, Nat.le_refl _, fun _ _ _ => rfl⟩
theorem Off.trans {S : Nat → Prop} {a b c : World} (h : Off S a b) (k : Off S b c) : Off S a c :=
  ⟨k.os.trans h.os, k.tape.trans h.tape, k.output.trans h.output, Nat.le_trans h.size k.size, fun i hi hs => (k.block i (Nat.lt_of_lt_of_le hi h.size) hs).trans (h.block i hi hs)⟩
theorem Off.mono {S S' : Nat → Prop} {a b : World} (h : Off S a b) (hs : ∀ k, S k → S' k) : Off S' a b :=
  ⟨h.os, h.tape, h.output, h.size, fun i hi hn => h.block i hi fun x => hn (hs i x)⟩
theorem Off.of_below {S : Nat → Prop} {a b : World} (h : Below a.heap.size a b) : Off S a b := ⟨h.os, h.tape, h.output, h.size, fun i hi _ => h.block i hi⟩
theorem Off.below {S : Nat → Prop} {a b : World} {B : Nat} (h : Off S a b) (hs : ∀ k, S k → B ≤ k) (hB : B ≤ a.heap.size) : Below B a b :=
  ⟨h.os, h.tape, h.output, h.size, fun i hi => h.block i (by omega) fun x => by have := hs i x; omega⟩
theorem Off.alloc {S : Nat → Prop} {a w : World} (h : Off S a w) (o : Obj) : Off S a (w.alloc o) := h.trans (Off.of_below ((Below.refl _ _).alloc (Nat.le_refl _) o))
theorem Off.drew {S : Nat → Prop} {a w : World} (h : Off S a w) : Off S a w.drew := ⟨h.os, h.tape, h.output, h.size, h.block⟩
theorem Off.drewN {S : Nat → Prop} {a w : World} (h : Off S a w) (n : Nat) : Off S a (w.drewN n) := ⟨h.os, h.tape, h.output, h.size, h.block⟩
theorem Off.setCell {S : Nat → Prop} {a w : World} (h : Off S a w) {p : Addr} (hp : S p.block) (u : Value) : Off S a (w.setCell p u) :=
  h.trans ⟨rfl, rfl, rfl, by simp [World.setCell], fun k hk hn => Below.heap_setCell _ _ _ _ (fun e => hn (e ▸ hp))⟩
theorem Off.step {S : Nat → Prop} {a b c : World} (h : Off S a b) (k : Below b.heap.size b c) : Off S a c := h.trans (Off.of_below k)
/-- What is new may change as well: seen from the elder world nothing more has. -/
theorem Off.late {S S' : Nat → Prop} {a b c : World} (h : Off S a b) (k : Off S' b c) (hs : ∀ i, i < a.heap.size → S' i → S i) : Off S a c :=
  ⟨k.os.trans h.os, k.tape.trans h.tape, k.output.trans h.output, Nat.le_trans h.size k.size, fun i hi hn => (k.block i (Nat.lt_of_lt_of_le hi h.size) fun x => hn (hs i hi x)).trans (h.block i hi hn)⟩
theorem Off.cell {S : Nat → Prop} {w w' : World} (h : Off S w w') {p : Addr} (hp : p.block < w.heap.size) (hs : ¬ S p.block) : w'.cell? p = w.cell? p := World.cell?_of_block (w := w) (h.block p.block hp hs)
theorem Off.frozen {S : Nat → Prop} {w w' : World} (h : Off S w w') {p : Addr} (hp : p.block < w.heap.size) (hs : ¬ S p.block) : w'.frozen? p = w.frozen? p := World.frozen?_of_block (w := w) (h.block p.block hp hs)

theorem lt_of_cell {w : World} {b o : Nat} {v : Value} (h : w.cell? ⟨b, o, none⟩ = some v) : b < w.heap.size := by
  rcases Nat.lt_or_ge b w.heap.size with h1 | h1
  · exact h1
  · simp [World.cell?, Array.getElem?_eq_none h1] at h

/-! ### maps -/
/-- Block b is a map (its keys of type k) of c entries: f tells which element a key has. -/
def MapIs (P : Program) (k : TypeId) (w : World) (b : Nat) (f : Value → Option Value) (c : Nat) : Prop :=
  ∃ es clock, w.heap[b]? = some (.map es clock) ∧ Stamped es clock ∧ es.size = c ∧ (∀ x ∈ es.toList, ∃ l, keyOf P k x.key = some l) ∧
    (∀ x ∈ es.toList, f x.key = some x.val) ∧ (∀ key v, f key = some v → ∃ x ∈ es.toList, x.key = key)

open Classical in
noncomputable def putK (f : Value → Option Value) (key v : Value) : Value → Option Value := fun x => if x = key then some v else f x
open Classical in
noncomputable def delK (f : Value → Option Value) (key : Value) : Value → Option Value := fun x => if x = key then none else f x

section
variable {P : Program} {k t e : TypeId} {w : World} {b c : Nat} {f : Value → Option Value}

theorem MapIs.lt (h : MapIs P k w b f c) : b < w.heap.size := by
  obtain ⟨es, clock, hb, _⟩ := h
  exact (Array.getElem?_eq_some_iff.1 hb).1
theorem MapIs.no_cell (h : MapIs P k w b f c) (o : Nat) : w.cell? ⟨b, o, none⟩ = none := by
  obtain ⟨es, clock, hb, _⟩ := h
  simp [World.cell?, hb]
theorem MapIs.of_block {w' : World} (h : MapIs P k w b f c) (hb : w'.heap[b]? = w.heap[b]?) : MapIs P k w' b f c := by
  obtain ⟨es, clock, h1, h2⟩ := h
  exact ⟨es, clock, hb.trans h1, h2⟩
theorem MapIs.off {w' : World} {S : Nat → Prop} (h : MapIs P k w b f c) (ho : Off S w w') (hs : ¬ S b) : MapIs P k w' b f c := h.of_block (ho.block b h.lt hs)
theorem MapIs.made (w : World) : MapIs P k (w.alloc (.map #[] 0)) w.heap.size (fun _ => none) 0 :=
  ⟨#[], 0, (MapKept.heap_alloc w _).1, stamped_empty 0, rfl, by simp, by simp, by simp⟩

theorem MapIs.look (h : MapIs P k w b f c) (K : Keyed P k) (ht : P.underlying t = some (.map k e)) {z : Value} (hz : (zeroValue e).run P w = .ok z w) {key : Value} {kl : Lit} (hkey : keyOf P k key = some kl) (ok : Bool) :
    (Instr.lookup t (.map (some b)) key ok).run P w = .ok (if ok then .tuple #[(f key).getD z, .bool (f key).isSome] else (f key).getD z) w := by
  obtain ⟨es, clock, hb, hst, hc, hk, h1, h2⟩ := h
  rcases K.find w hkey es.toList hk with ⟨g1, g2⟩ | ⟨j, e0, g1, g2, g3⟩
  · have hn : f key = none := by
      cases hf : f key with
      | none => rfl
      | some v =>
        obtain ⟨x, hx, hxk⟩ := h2 key v hf
        exact absurd hxk (g2 x hx)
    simp [Instr.lookup, run_underlying ht, MapKept.run_getObj_map hb, K.check w _ hkey, g1, hz, Result.andThen, hn]
  · have hs := h1 e0 (List.mem_of_getElem? g2)
    rw [g3] at hs
    simp [Instr.lookup, run_underlying ht, MapKept.run_getObj_map hb, K.check w _ hkey, g1, Result.andThen, hs]

theorem MapIs.len (h : MapIs P k w b f c) (ht : P.underlying t = some (.map k e)) (ty : TypeId) : (Builtin.len_ #[t] ty #[.map (some b)]).run P w = .ok (.int .i64 c) w := by
  obtain ⟨es, clock, hb, hst, hc, _⟩ := h
  rw [← hc]
  simp [Builtin.len_, run_underlying ht, MapKept.run_getObj_map hb, goInt, Result.andThen]

theorem off_setBlock (w : World) (b : Nat) (o : Obj) (S : Nat → Prop) (hs : S b) : Off S w (setBlock w b o) :=
  ⟨rfl, rfl, rfl, by simp [setBlock], fun i hi hn => by
    have : b ≠ i := fun e => hn (e ▸ hs)
    simp [setBlock, this]⟩

theorem MapIs.put (h : MapIs P k w b f c) (K : Keyed P k) (ht : P.underlying t = some (.map k e)) {key val : Value} {kl : Lit} (hkey : keyOf P k key = some kl) :
    ∃ w', (Instr.mapUpdate t (.map (some b)) key val).run P w = .ok () w' ∧ MapIs P k w' b (putK f key val) (if (f key).isSome then c else c + 1) ∧ Off (· = b) w w' := by
  have hlt := h.lt
  obtain ⟨es, clock, hb, hst, hc, hk, h1, h2⟩ := h
  rcases K.find w hkey es.toList hk with ⟨g1, g2⟩ | ⟨j, e0, g1, g2, g3⟩
  · have hn : f key = none := by
      cases hf : f key with
      | none => rfl
      | some v =>
        obtain ⟨x, hx, hxk⟩ := h2 key v hf
        exact absurd hxk (g2 x hx)
    refine ⟨setBlock w b (.map (es.push ⟨key, val, clock⟩) (clock + 1)), ?_, ⟨es.push ⟨key, val, clock⟩, clock + 1, ?_, stamped_push hst g2, ?_, ?_, ?_, ?_⟩, off_setBlock _ _ _ _ rfl⟩
    · simp [Instr.mapUpdate, run_underlying ht, MapKept.run_getObj_map hb, K.check w false hkey, g1, MapKept.run_setObj_map _ hb, Result.andThen, setBlock]
    · simp [setBlock, hlt]
    · simp [hn, hc]
    · intro x hx
      simp only [Array.toList_push, List.mem_append, List.mem_singleton] at hx
      rcases hx with hx | rfl
      · exact hk x hx
      · exact ⟨_, hkey⟩
    · intro x hx
      simp only [Array.toList_push, List.mem_append, List.mem_singleton] at hx
      rcases hx with hx | rfl
      · simp [putK, g2 x hx, h1 x hx]
      · simp [putK]
    · intro key' v hv
      simp only [Array.toList_push, List.mem_append, List.mem_singleton]
      unfold putK at hv
      split at hv
      · rename_i he
        exact ⟨_, .inr rfl, he.symm⟩
      · obtain ⟨x, hx, hxk⟩ := h2 key' v hv
        exact ⟨x, .inl hx, hxk⟩
  · have hs := h1 e0 (List.mem_of_getElem? g2)
    rw [g3] at hs
    have hj : es[j]? = some e0 := by simpa using g2
    have hlist : (es.modify j (fun e' => { e' with key := key, val := val })).toList = es.toList.set j { e0 with key := key, val := val } := by rw [Array.toList_modify, modify_eq_set _ _ _ _ g2]
    have hjl : j < es.toList.length := (List.getElem?_eq_some_iff.1 g2).1
    have hnd := hst.2.2
    have who : ∀ x ∈ es.toList.set j { e0 with key := key, val := val }, x = { e0 with key := key, val := val } ∨ (x ∈ es.toList ∧ x.key ≠ key) := by
      intro x hx
      obtain ⟨i, hi⟩ := List.mem_iff_getElem?.1 hx
      by_cases hij : j = i
      · subst hij
        rw [List.getElem?_set_self hjl] at hi
        exact .inl (Option.some.inj hi).symm
      · rw [List.getElem?_set_ne hij] at hi
        refine .inr ⟨List.mem_of_getElem? hi, fun hxk => hij ?_⟩
        have e1 : (es.toList.map (·.key))[j]? = some key := by rw [List.getElem?_map, g2]; simp [g3]
        have e2 : (es.toList.map (·.key))[i]? = some key := by rw [List.getElem?_map, hi]; simp [hxk]
        exact (List.getElem?_inj (by simpa using hjl) hnd).1 (e1.trans e2.symm)
    refine ⟨setBlock w b (.map (es.modify j (fun e' => { e' with key := key, val := val })) clock), ?_, ⟨es.modify j (fun e' => { e' with key := key, val := val }), clock, ?_, stamped_modify hst _ _ (fun _ _ => rfl) (fun e' _ he' => by rw [hj] at he'; cases he'; exact g3.symm), ?_, ?_, ?_, ?_⟩, off_setBlock _ _ _ _ rfl⟩
    · have hst' := K.stays w hkey
      simp [Instr.mapUpdate, run_underlying ht, MapKept.run_getObj_map hb, K.check w false hkey, g1, MapKept.run_setObj_map _ hb, Result.andThen, setBlock, hj, g3, hst']
    · simp [setBlock, hlt]
    · simp [hs, hc]
    · intro x hx
      rw [hlist] at hx
      rcases who x hx with rfl | ⟨hx, _⟩
      · exact ⟨_, hkey⟩
      · exact hk x hx
    · intro x hx
      rw [hlist] at hx
      rcases who x hx with rfl | ⟨hx, hne⟩
      · simp [putK]
      · simp [putK, hne, h1 x hx]
    · intro key' v hv
      rw [hlist]
      by_cases he : key' = key
      · exact ⟨{ e0 with key := key, val := val }, List.mem_iff_getElem?.2 ⟨j, List.getElem?_set_self hjl⟩, he.symm⟩
      · simp [putK, he] at hv
        obtain ⟨x, hx, hxk⟩ := h2 key' v hv
        obtain ⟨i, hi⟩ := List.mem_iff_getElem?.1 hx
        refine ⟨x, List.mem_iff_getElem?.2 ⟨i, ?_⟩, hxk⟩
        rw [List.getElem?_set_ne ?_]
        · exact hi
        · intro hij
          subst hij
          rw [g2] at hi
          cases hi
          exact he (hxk.symm.trans g3)

theorem MapIs.del (h : MapIs P k w b f c) (K : Keyed P k) (ht : P.underlying t = some (.map k e)) {key : Value} {kl : Lit} (hkey : keyOf P k key = some kl) (ty : TypeId) :
    ∃ w', (Builtin.delete_ #[t, k] ty #[.map (some b), key]).run P w = .ok (.tuple #[]) w' ∧ MapIs P k w' b (delK f key) (if (f key).isSome then c - 1 else c) ∧ Off (· = b) w w' := by
  have hlt := h.lt
  obtain ⟨es, clock, hb, hst, hc, hk, h1, h2⟩ := h
  rcases K.find w hkey es.toList hk with ⟨g1, g2⟩ | ⟨j, e0, g1, g2, g3⟩
  · have hn : f key = none := by
      cases hf : f key with
      | none => rfl
      | some v =>
        obtain ⟨x, hx, hxk⟩ := h2 key v hf
        exact absurd hxk (g2 x hx)
    refine ⟨setBlock w b (.map es clock), ?_, ⟨es, clock, ?_, hst, by simp [hn, hc], hk, ?_, ?_⟩, off_setBlock _ _ _ _ rfl⟩
    · simp [Builtin.delete_, run_underlying ht, MapKept.run_getObj_map hb, K.check w _ hkey, g1, MapKept.run_setObj_map _ hb, Result.andThen, setBlock]
    · simp [setBlock, hlt]
    · intro x hx
      simp [delK, g2 x hx, h1 x hx]
    · intro key' v hv
      unfold delK at hv
      split at hv
      · cases hv
      · exact h2 key' v hv
  · have hs := h1 e0 (List.mem_of_getElem? g2)
    rw [g3] at hs
    have hjl : j < es.toList.length := (List.getElem?_eq_some_iff.1 g2).1
    have hjs : j < es.size := by simpa using hjl
    have hsub : (es.eraseIdxIfInBounds j).toList = es.toList.eraseIdx j := by
      unfold Array.eraseIdxIfInBounds
      rw [dif_pos hjs]
      simp
    have hnd := hst.2.2
    have who : ∀ x ∈ es.toList.eraseIdx j, x ∈ es.toList ∧ x.key ≠ key := by
      intro x hx
      obtain ⟨i, hi, he⟩ := List.mem_eraseIdx_iff_getElem?.1 hx
      refine ⟨List.mem_of_getElem? he, fun hxk => hi ?_⟩
      have e1 : (es.toList.map (·.key))[j]? = some key := by rw [List.getElem?_map, g2]; simp [g3]
      have e2 : (es.toList.map (·.key))[i]? = some key := by rw [List.getElem?_map, he]; simp [hxk]
      exact ((List.getElem?_inj (by simpa using hjl) hnd).1 (e1.trans e2.symm)).symm
    refine ⟨setBlock w b (.map (es.eraseIdxIfInBounds j) clock), ?_, ⟨es.eraseIdxIfInBounds j, clock, ?_, stamped_erase hst j, ?_, ?_, ?_, ?_⟩, off_setBlock _ _ _ _ rfl⟩
    · simp [Builtin.delete_, run_underlying ht, MapKept.run_getObj_map hb, K.check w _ hkey, g1, MapKept.run_setObj_map _ hb, Result.andThen, setBlock]
    · simp [setBlock, hlt]
    · have : (es.eraseIdxIfInBounds j).toList.length = es.toList.length - 1 := by rw [hsub, List.length_eraseIdx_of_lt hjl]
      rw [hs, ← Array.length_toList, this, ← hc]
      simp
    · intro x hx
      rw [hsub] at hx
      exact hk x (who x hx).1
    · intro x hx
      rw [hsub] at hx
      simp [delK, (who x hx).2, h1 x (who x hx).1]
    · intro key' v hv
      unfold delK at hv
      split at hv
      · cases hv
      · rename_i hne
        obtain ⟨x, hx, hxk⟩ := h2 key' v hv
        rw [hsub]
        obtain ⟨i, hi⟩ := List.mem_iff_getElem?.1 hx
        refine ⟨x, List.mem_eraseIdx_iff_getElem?.2 ⟨i, ?_, hi⟩, hxk⟩
        intro hij
        subst hij
        rw [g2] at hi
        cases hi
        exact hne (hxk.symm.trans g3)
end

/-- delete, its run being known. -/
theorem wpList_delete_run {P : Program} {w w' : World} {ops : Array Oper} {rest : List Oper} {o : Oper} {a : Act} {Q : Exit → Act → World → Prop} (hgd : o.guard = none) (m x : Operand) (t k : TypeId)
    (ho : o.op = .call { callee := .builtin .delete, args := #[m, x], argTypes := #[t, k] }) (mv key : Value) (hm : a.eval m = mv) (hx : a.eval x = key)
    (hrun : (Builtin.delete_ #[t, k] o.type #[mv, key]).run P w = .ok (.tuple #[]) w') (h : wpList P ops Q rest (a.put o.dst (.tuple #[])) w') : wpList P ops Q (o :: rest) a w := by
  refine wpList_plain hgd fun K hK => ?_
  unfold Oper.wp execOp
  simp only [ho, resolve, invoke, builtin, Sem.run_bind, Sem.run_pure, Result.andThen_ok, List.map_toArray, List.map_cons, List.map_nil, hm, hx, hrun]
  exact hK _ _ h
end Go.Proofs.Ytgkdggidgaifhaa
