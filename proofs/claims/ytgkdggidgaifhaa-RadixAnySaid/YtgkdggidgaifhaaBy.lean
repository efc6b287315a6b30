/- Bytes in memory: what a slice of bytes holds; a slice of bytes that the call owns; append onto it. -/
import Derived.Test.YtgkdggidgaifhaaHeap
import Derived.Deep.Onto
import Derived.Laws.IdiomStrings
import Derived.Laws.BytesArg
namespace Go.Proofs.Ytgkdggidgaifhaa
open Go.RowKit
set_option linter.unusedVariables false
set_option linter.unusedSimpArgs false

theorem alloc_at (w : World) (v : Value) (t : TypeId) : (w.alloc (.cells #[v] t)).cell? ⟨w.heap.size, 0, none⟩ = some v ∧ (w.alloc (.cells #[v] t)).frozen? ⟨w.heap.size, 0, none⟩ = false := by
  have b3 : (w.alloc (.cells #[v] t)).heap[w.heap.size]? = some (.cells #[v] t (0, 0)) := heap_alloc_new w _
  refine ⟨by rw [cell_of_row _ _ _ _ _ _ b3]; rfl, ?_⟩
  unfold World.frozen?; rw [b3]; simp
theorem results_tmp4 {fn : Func} {t u v x : Tmp} (h : fn.results = #[.tmp t, .tmp u, .tmp v, .tmp x]) (tmps : Array Value) (P : Program) (w : World) :
    (results fn tmps).run P w = .ok (.tuple #[tmps.getD t undef, tmps.getD u undef, tmps.getD v undef, tmps.getD x undef]) w := by
  simp [results, h]
abbrev Bytes := List UInt8
/-- A byte as a value. -/
def bv (x : UInt8) : Value := .int .u8 (x.toNat : Nat)
def at8 (L : Bytes) (k : Nat) : Nat := (L.getD k 0).toNat
theorem at8_lt (L : Bytes) (k : Nat) : at8 L k < 256 := UInt8.toNat_lt _
theorem at8_get {L : Bytes} {k : Nat} (h : k < L.length) : at8 L k = (L[k]).toNat := by simp [at8, h]
/-- A number as a byte. -/
def b8 (n : Nat) : UInt8 := UInt8.ofNat n
theorem b8_lt {n : Nat} (h : n < 256) : (b8 n).toNat = n := by simp [b8]; omega
theorem bv_b8 {n : Nat} (h : n < 256) : bv (b8 n) = .int .u8 n := by simp [bv, b8_lt h]
theorem b8_toNat (x : UInt8) : b8 x.toNat = x := by simp [b8]
theorem b8_at8 (L : Bytes) (k : Nat) : b8 (at8 L k) = L.getD k 0 := by simp [b8, at8]

/-- The slice at A holds the n bytes L. -/
def SBy (w : World) (A : Option Addr) (n : Nat) (L : Bytes) : Prop := L.length = n ∧ (0 < n → ∃ b o, A = some ⟨b, o, none⟩ ∧ b < w.heap.size ∧ ∀ k, k < n → w.cell? ⟨b, o + k, none⟩ = some (.int .u8 (at8 L k : Nat)))
/-- The bytes L, in a row of the call's own (from block B on). -/
def OwB (B : Nat) (w : World) (v : Value) (L : Bytes) : Prop := w.ownsRow B 5 1 v L.length (L.map bv)

theorem SBy.len {w : World} {A : Option Addr} {n : Nat} {L : Bytes} (h : SBy w A n L) : L.length = n := h.1
theorem SBy.nil (w : World) (A : Option Addr) : SBy w A 0 [] := ⟨rfl, fun h => absurd h (by omega)⟩
theorem SBy.off {S : Nat → Prop} {w w' : World} {A : Option Addr} {n : Nat} {L : Bytes} (h : SBy w A n L) (ho : Off S w w') (hs : ∀ k o, A = some ⟨k, o, none⟩ → ¬ S k) : SBy w' A n L := ⟨h.1, fun hp => by
  obtain ⟨b, o, rfl, hb, hc⟩ := h.2 hp
  exact ⟨b, o, rfl, Nat.lt_of_lt_of_le hb ho.size, fun k hk => (ho.cell hb (hs b o rfl)).trans (hc k hk)⟩⟩
theorem SBy.up {w w' : World} {A : Option Addr} {n : Nat} {L : Bytes} (h : SBy w A n L) (hb : Below w.heap.size w w') : SBy w' A n L := h.off (S := fun _ => False) (Off.of_below hb) (fun _ _ _ => id)
theorem SBy.alloc {w : World} {A : Option Addr} {n : Nat} {L : Bytes} (h : SBy w A n L) (o : Obj) : SBy (w.alloc o) A n L := h.up ((Below.refl _ _).alloc (Nat.le_refl _) o)
theorem SBy.drew {w : World} {A : Option Addr} {n : Nat} {L : Bytes} (h : SBy w A n L) : SBy w.drew A n L := h.up (Below.refl _ _).drew
theorem SBy.drewN {w : World} {A : Option Addr} {n : Nat} {L : Bytes} (h : SBy w A n L) (k : Nat) : SBy (w.drewN k) A n L := h.up (below_drewN (Below.refl _ _) k)
/-- A part of a slice. -/
theorem SBy.part {w : World} {b o n : Nat} {L : Bytes} (h : SBy w (some ⟨b, o, none⟩) n L) (i j : Nat) (hij : i ≤ j) (hj : j ≤ n) : SBy w (some ⟨b, o + i, none⟩) (j - i) ((L.drop i).take (j - i)) := by
  obtain ⟨hl, hc⟩ := h
  refine ⟨by simp [hl]; omega, fun hp => ?_⟩
  obtain ⟨b', o', he, hb, hc⟩ := hc (by omega)
  cases he
  refine ⟨b, o + i, rfl, hb, fun k hk => ?_⟩
  rw [Nat.add_assoc, hc (i + k) (by omega)]
  simp [at8, List.getD_eq_getElem?_getD, List.getElem?_take, List.getElem?_drop, hk]

section
variable {B : Nat} {w : World} {v : Value} {L : Bytes}
theorem OwB.mono (h : OwB B w v L) {B' : Nat} (hb : B' ≤ B) : OwB B' w v L := World.ownsRow.mono h hb
theorem OwB.lt (h : OwB B w v L) : ∀ k, v.ownBlock = some k → B ≤ k ∧ k < w.heap.size := World.ownsRow.lt h
theorem OwB.alloc (h : OwB B w v L) (o : Obj) : OwB B (w.alloc o) v L := World.ownsRow.alloc h o
theorem OwB.drew (h : OwB B w v L) : OwB B w.drew v L := h
theorem OwB.drewN (h : OwB B w v L) (k : Nat) : OwB B (w.drewN k) v L := h
theorem OwB.empty (B : Nat) (w : World) : OwB B w (.slice none 0 0) [] := World.ownsRow_nil _ _ _ _
theorem OwB.off (h : OwB B w v L) {S : Nat → Prop} {w' : World} (ho : Off S w w') (hs : ∀ k, v.ownBlock = some k → ¬ S k) : OwB B w' v L := by
  refine ⟨h.1, ?_⟩
  rcases h.2 with hn | ⟨g, cap, cur, rfl, hb, hgg, rest⟩
  · exact .inl hn
  · refine .inr ⟨g, cap, cur, rfl, hb, ?_, rest⟩
    rw [ho.block g (Array.getElem?_eq_some_iff.1 hgg).1 (hs g rfl)]
    exact hgg
theorem OwB.up (h : OwB B w v L) {w' : World} (hb : Below w.heap.size w w') : OwB B w' v L := h.off (S := fun _ => False) (Off.of_below hb) (fun _ _ => id)
/-- What it looks like. -/
theorem OwB.form (h : OwB B w v L) : ∃ A c, v = .slice A L.length c ∧ L.length ≤ c ∧ c ≤ maxLen ∧ SBy w A L.length L ∧ (∀ b o, A = some ⟨b, o, none⟩ → B ≤ b ∧ b < w.heap.size ∧ o = 0) := by
  rcases h.2 with ⟨rfl, h0⟩ | ⟨g, cap, cur, rfl, hb, hg, h1, h2, h3, h4⟩
  · have : L = [] := by simpa using h0
    subst this
    exact ⟨_, _, rfl, by simp, by simp, SBy.nil _ _, fun b o h => by cases h⟩
  · have hl := (Array.getElem?_eq_some_iff.1 hg).1
    refine ⟨_, _, rfl, h1, h2, ⟨rfl, fun hp => ⟨g, 0, rfl, hl, fun k hk => ?_⟩⟩, fun b o h => ?_⟩
    · have := World.ownsRow.cells h (g := g) rfl k (bv (L[k])) (by simp [hk])
      rw [show (⟨g, 0, none⟩ : Addr).add k = ⟨g, 0 + k, none⟩ by unfold Addr.add; split <;> simp_all] at this
      rw [this, at8_get hk]
      rfl
    · injection h with e
      injection e with e1 e2
      subst e1
      exact ⟨hb, hl, e2.symm⟩
theorem OwB.part {A : Option Addr} {n c : Nat} (h : OwB B w (.slice A n c) L) : L.length = n ∧ n ≤ c ∧ SBy w A n L := by
  obtain ⟨A', c', he, h1, h2, h3, _⟩ := h.form
  cases he
  exact ⟨rfl, h1, h3⟩
end

theorem byte_info : (Try.prog.info? 5).map (fun i => (i.zero, i.size, i.bytes)) = some (some (.int .u8 0), 1, 1) := by kernel_rfl

/-- append onto bytes that the call owns. -/
theorem run_app {B : Nat} {w : World} {v : Value} {L M : Bytes} {A : Option Addr} {m c : Nat} (hown : OwB B w v L) (hS : SBy w A m M) (hB : B ≤ w.heap.size) (hlen : L.length + m ≤ 140737488355328) (ty : TypeId) :
    ∃ v' w', (Builtin.append_ #[38, 38] ty #[v, .slice A m c]).run Try.prog w = .ok v' w' ∧ OwB B w' v' (L ++ M) ∧ w.grownBy w' v.ownBlock ∧ (v'.ownBlock = v.ownBlock ∨ v'.ownBlock = some w.heap.size) := by
  obtain ⟨i, hi, hz0, hz1, hz2⟩ := info_parts byte_info
  obtain ⟨hl, hc⟩ := hS
  have hne : ∃ a : Addr, A = some a ∨ m = 0 := by
    rcases Nat.eq_zero_or_pos m with h0 | hp
    · exact ⟨⟨0, 0, none⟩, .inr h0⟩
    · obtain ⟨b, o, rfl, _⟩ := hc hp
      exact ⟨_, .inl rfl⟩
  rcases Nat.eq_zero_or_pos m with h0 | hp
  · subst h0
    have : M = [] := by simpa using hl
    subst this
    refine ⟨v, w, ?_, by simpa using hown, ⟨rfl, rfl, rfl, Nat.le_refl _, fun _ _ _ => rfl⟩, .inl rfl⟩
    rcases hown.2 with ⟨rfl, h0⟩ | ⟨g, cap, cur, rfl, hb, hg, h1, h2, h3, h4⟩
    · cases A <;> simp [Builtin.append_, run_underlying Try.underlying38, sizeOf, typeInfo, hi, Builtin.lenOf, Builtin.firstCells, loadCells, loadCellsFrom]
    · cases A <;> simp [Builtin.append_, run_underlying Try.underlying38, sizeOf, typeInfo, hi, Builtin.lenOf, Builtin.firstCells, loadCells, loadCellsFrom, h1, storeCells]
  · obtain ⟨b, o, rfl, hb, hc⟩ := hc hp
    obtain ⟨v', w', hr, ho, hg, _, hat⟩ := run_append_own_at (P := Try.prog) w B 38 ty 5 i (.int .u8 0) 1 1 Try.underlying38 hi hz0 hz1 hz2 rfl (by omega) v L.length (L.map bv) hown ⟨b, o, none⟩ m c (M.map bv)
      (by simp [hl]) (fun j u hj => by
        have hj' : j < M.length := by
          rcases Nat.lt_or_ge j M.length with h | h
          · exact h
          · rw [List.getElem?_eq_none (by simpa using h)] at hj; cases hj
        rw [show (⟨b, o, none⟩ : Addr).add j = ⟨b, o + j, none⟩ by unfold Addr.add; split <;> simp_all, hc j (by omega), at8_get hj']
        simp [hj'] at hj
        rw [← hj]
        rfl) (fun u hu => by
        obtain ⟨x, _, rfl⟩ := List.mem_map.1 hu
        simp [bv, Value.oneCell']) (by unfold maxLen; omega) (by omega) hB
    refine ⟨v', w', hr, ?_, hg, hat⟩
    unfold OwB
    rw [List.length_append, List.map_append, hl]
    exact ho

/-- At the operation, in a plain region. -/
theorem wpList_app {ops : Array Oper} {rest : List Oper} {o : Oper} {a : Act} {w : World} {Q : Exit → Act → World → Prop} (hgd : o.guard = none) (s x : Operand)
    (ho : o.op = .call { callee := .builtin .append, args := #[s, x], argTypes := #[38, 38] }) (B : Nat) (v : Value) (L M : Bytes) (hs : a.eval s = v) (hown : OwB B w v L) (A : Option Addr) (m c : Nat) (hx : a.eval x = .slice A m c)
    (hS : SBy w A m M) (hB : B ≤ w.heap.size) (hlen : L.length + m ≤ 140737488355328) (n' : Nat) (hn' : L.length + m = n')
    (h : ∀ A' c' w', OwB B w' (.slice A' n' c') (L ++ M) → w.grownBy w' v.ownBlock → (Value.ownBlock (.slice A' n' c') = v.ownBlock ∨ Value.ownBlock (.slice A' n' c') = some w.heap.size) → wpList Try.prog ops Q rest (a.put o.dst (.slice A' n' c')) w') : wpList Try.prog ops Q (o :: rest) a w := by
  obtain ⟨v', w', hr, h1, h2, h3⟩ := run_app (c := c) hown hS hB hlen o.type
  obtain ⟨A', c', rfl, _⟩ := h1.form
  have hl : (L ++ M).length = n' := by rw [List.length_append, hS.1, hn']
  rw [hl] at h1 h3 hr
  refine wpList_plain hgd fun K hK => ?_
  unfold Oper.wp execOp
  simp only [ho, resolve, invoke, builtin, Sem.run_bind, Sem.run_pure, Result.andThen_ok, List.map_toArray, List.map_cons, List.map_nil, hs, hx, hr]
  exact hK _ _ (h A' c' w' h1 h2 h3)

theorem SBy.one (w : World) {x : Nat} (h : x < 256) (t : TypeId) : SBy (w.alloc (.cells #[.int .u8 (x : Nat)] t)) (some ⟨w.heap.size, 0, none⟩) 1 [b8 x] := by
  refine ⟨rfl, fun _ => ⟨w.heap.size, 0, rfl, by simp, fun k hk => ?_⟩⟩
  have : k = 0 := by omega
  subst this
  have b3 : (w.alloc (.cells #[.int .u8 (x : Nat)] t)).heap[w.heap.size]? = some (.cells #[.int .u8 (x : Nat)] t (0, 0)) := heap_alloc_new w _
  rw [cell_of_row _ _ _ _ _ _ b3]
  simp [at8, b8_lt h]
theorem SBy.oneI (w : World) {y : Int} (x : Nat) (h : x < 256) (hy : y = (x : Int)) (t : TypeId) : SBy (w.alloc (.cells #[.int .u8 y] t)) (some ⟨w.heap.size, 0, none⟩) 1 [b8 x] := by
  subst hy
  exact SBy.one w h t
theorem OwB.lit (w : World) {B : Nat} (hB : B ≤ w.heap.size) : OwB B (w.alloc (.cells #[] 5)) (.slice (some ⟨w.heap.size, 0, none⟩) 0 0) [] := World.ownsRow_made w #[] 0 hB (by simp) rfl
theorem OwB.below {B : Nat} {w w' w0 : World} {v : Value} {L : Bytes} (h : OwB B w v L) (hb : Below B w0 w) (hg : w.grownBy w' v.ownBlock) (hB : B ≤ w.heap.size) : Below B w0 w' := Below.grown hb hg hB fun k hk => (h.lt k hk).1
theorem grown_off {w w' : World} {r : Option Nat} (h : w.grownBy w' r) : Off (fun k => r = some k) w w' := ⟨h.os, h.tape, h.output, h.size, fun k hk hn => h.block k hk (fun e => hn e.symm)⟩

/-- Bytes that were made since w0, and nothing elder has changed. -/
structure FrB (w0 w : World) (v : Value) (L : Bytes) : Prop where
  own : OwB w0.heap.size w v L
  bel : Below w0.heap.size w0 w
section
variable {w0 w : World} {v : Value} {L : Bytes}
theorem FrB.size (h : FrB w0 w v L) : w0.heap.size ≤ w.heap.size := h.bel.size
theorem FrB.alloc (h : FrB w0 w v L) (o : Obj) : FrB w0 (w.alloc o) v L := ⟨h.own.alloc o, h.bel.alloc h.bel.size o⟩
theorem FrB.drew (h : FrB w0 w v L) : FrB w0 w.drew v L := ⟨h.own.drew, h.bel.drew⟩
theorem FrB.drewN (h : FrB w0 w v L) (k : Nat) : FrB w0 (w.drewN k) v L := ⟨h.own.drewN k, below_drewN h.bel k⟩
theorem FrB.up {w' : World} (h : FrB w0 w v L) (hb : Below w.heap.size w w') : FrB w0 w' v L := ⟨h.own.up hb, below_upto h.bel hb (Nat.le_refl _)⟩
theorem FrB.lit (w : World) : FrB w (w.alloc (.cells #[] 5)) (.slice (some ⟨w.heap.size, 0, none⟩) 0 0) [] := ⟨OwB.lit w (Nat.le_refl _), (Below.refl _ _).alloc (Nat.le_refl _) _⟩
theorem FrB.empty (w : World) : FrB w w (.slice none 0 0) [] := ⟨OwB.empty _ _, Below.refl _ _⟩
theorem FrB.sby {A : Option Addr} {n c : Nat} (h : FrB w0 w (.slice A n c) L) : SBy w A n L := h.own.part.2.2
theorem FrB.len {A : Option Addr} {n c : Nat} (h : FrB w0 w (.slice A n c) L) : L.length = n := h.own.part.1
theorem FrB.cap {A : Option Addr} {n c : Nat} (h : FrB w0 w (.slice A n c) L) : n ≤ c := h.own.part.2.1
/-- From an elder world's sight. -/
theorem FrB.elder {wa : World} (h : FrB w0 w v L) (hb : Below wa.heap.size wa w0) : FrB wa w v L := ⟨h.own.mono hb.size, hb.trans (h.bel.mono hb.size)⟩
end
theorem wpList_appF {ops : Array Oper} {rest : List Oper} {o : Oper} {a : Act} {w : World} {Q : Exit → Act → World → Prop} (hgd : o.guard = none) (s x : Operand)
    (ho : o.op = .call { callee := .builtin .append, args := #[s, x], argTypes := #[38, 38] }) (w0 : World) (v : Value) (L M : Bytes) (hs : a.eval s = v) (hown : FrB w0 w v L) (A : Option Addr) (m c : Nat) (hx : a.eval x = .slice A m c)
    (hS : SBy w A m M) (hlen : L.length + m ≤ 140737488355328) (n' : Nat) (hn' : L.length + m = n')
    (h : ∀ A' c' w', FrB w0 w' (.slice A' n' c') (L ++ M) → Off (fun k => v.ownBlock = some k) w w' → wpList Try.prog ops Q rest (a.put o.dst (.slice A' n' c')) w') : wpList Try.prog ops Q (o :: rest) a w :=
  wpList_app hgd s x ho w0.heap.size v L M hs hown.own A m c hx hS hown.bel.size hlen n' hn' fun A' c' w' h1 hg _ => h A' c' w' ⟨h1, hown.own.below hown.bel hg hown.bel.size⟩ (grown_off hg)

/-- A string of bytes. -/
def strB (L : Bytes) : ByteArray := ⟨L.toArray⟩
theorem strB_inj {L M : Bytes} : strB L = strB M ↔ L = M := by
  constructor
  · intro h
    have := congrArg (fun s : ByteArray => s.data.toList) h
    simpa [strB] using this
  · intro h; rw [h]
theorem strB_list (L : Bytes) : (strB L).toList = L := by rw [ByteArray.toList_eq]; simp [strB]
theorem strB_eq (L M : Bytes) : ((strB L).toList == (strB M).toList) = decide (L = M) := by
  rw [strB_list, strB_list, Bool.eq_iff_iff]
  simp
/-- string(b). -/
theorem SBy.str {w : World} {A : Option Addr} {n : Nat} {L : Bytes} (h : SBy w A n L) (c : Nat) : (convert 38 9 (.slice A n c)).run Try.prog w = .ok (.string (strB L)) w := by
  obtain ⟨hl, hc⟩ := h
  cases A with
  | none =>
    obtain rfl : n = 0 := by
      rcases Nat.eq_zero_or_pos n with h | h
      · exact h
      · obtain ⟨b, o, h, _⟩ := hc h
        cases h
    have : L = [] := by simpa using hl
    subst this
    exact run_convert_bytes_nil w _ _ Try.underlying38 Try.underlying5 _ _ _ Try.underlying9
  | some a =>
    subst hl
    refine run_convert_bytes_back w _ _ _ a c L Try.underlying38 Try.underlying5 Try.underlying9 fun j hj => ?_
    obtain ⟨b, o, he, hb, hcc⟩ := hc (by omega)
    cases he
    rw [show (⟨b, o, none⟩ : Addr).add j = ⟨b, o + j, none⟩ by unfold Addr.add; split <;> simp_all, hcc j hj, at8_get hj]
end Go.Proofs.Ytgkdggidgaifhaa
