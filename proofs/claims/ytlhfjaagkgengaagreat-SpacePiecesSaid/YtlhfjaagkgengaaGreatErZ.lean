/- Rows of elements, whatever they are: one's own, that grow; to be read; to be written. -/
import Derived.Test.YtlhfjaagkgengaaGreatMS
import Derived.Maps.AppendAt
namespace Go.Proofs.YtlhfjaagkgengaaGreat
open Go.RowKit
set_option linter.unusedVariables false
set_option linter.unusedSimpArgs false
/-- What a row's elements are. -/
structure El (E : Type) where
  sl : TypeId
  el : TypeId
  z : Value
  bytes : Nat
  k : Nat
  ht : Tryz.prog.underlying sl = some (.slice el)
  hi : (Tryz.prog.info? el).map (fun i => (i.zero, i.size, i.bytes)) = some (some z, k, bytes)
  hzs : z.cells.size = k
  hk : 0 < k ∧ k ≤ 64
  hb64 : bytes ≤ 512
  cells : E → List Value
  len : ∀ x, (cells x).length = k
  one : ∀ x, ∀ u ∈ cells x, u.oneCell' = true
def elC {E : Type} (F : El E) (L : List E) : List Value := L.flatMap F.cells
def OwE {E : Type} (F : El E) (B : Nat) (w : World) (v : Value) (L : List E) : Prop := w.ownsRow B F.el F.k v L.length (elC F L)
structure EAt {E : Type} (F : El E) (w : World) (A : Option Addr) (L : List E) : Prop where
  at_ : 0 < L.length → ∃ g o, A = some ⟨g, o, none⟩ ∧ g < w.heap.size ∧ ∀ (i : Nat) (x : E), L[i]? = some x → ∀ (j : Nat) (u : Value), (F.cells x)[j]? = some u → w.cell? ⟨g, o + i * F.k + j, none⟩ = some u
def eO (A : Option Addr) (n : Nat) (k : Nat) : Prop := 0 < n ∧ ∃ o, A = some ⟨k, o, none⟩
section
variable {E : Type} {F : El E} {B : Nat} {w w' wa : World} {v : Value} {L M : List E} {S : Nat → Prop} {A : Option Addr}
theorem elC_len (F : El E) (L : List E) : (elC F L).length = L.length * F.k := by
  induction L with
  | nil => simp [elC]
  | cons x L ih =>
    have h := F.len x
    simp only [elC, List.flatMap_cons, List.length_append, List.length_cons] at ih ⊢
    rw [ih, h, Nat.succ_mul]
    omega
theorem elC_app (F : El E) (L M : List E) : elC F (L ++ M) = elC F L ++ elC F M := by simp [elC]
theorem elC_at (F : El E) : ∀ (L : List E) (i : Nat) (x : E), L[i]? = some x → ∀ (j : Nat) (u : Value), (F.cells x)[j]? = some u → (elC F L)[i * F.k + j]? = some u
  | [], i, x, h, j, u, hu => by simp at h
  | y :: L, 0, x, h, j, u, hu => by
    simp at h
    subst h
    simp only [elC, List.flatMap_cons, Nat.zero_mul, Nat.zero_add]
    rw [List.getElem?_append_left (List.getElem?_eq_some_iff.1 hu).1]
    exact hu
  | y :: L, i + 1, x, h, j, u, hu => by
    rw [List.getElem?_cons_succ] at h
    have ih := elC_at F L i x h j u hu
    simp only [elC, List.flatMap_cons] at ih ⊢
    have hl := F.len y
    rw [List.getElem?_append_right (by rw [hl, Nat.succ_mul]; omega), hl, show (i + 1) * F.k + j - F.k = i * F.k + j by rw [Nat.succ_mul]; omega]
    exact ih
theorem elC_inv (F : El E) (L : List E) (j : Nat) (u : Value) (h : (elC F L)[j]? = some u) : ∃ x, L[j / F.k]? = some x ∧ (F.cells x)[j % F.k]? = some u := by
  have hj : j < L.length * F.k := by rw [← elC_len]; exact (List.getElem?_eq_some_iff.1 h).1
  have hd : j / F.k < L.length := (Nat.div_lt_iff_lt_mul F.hk.1).2 hj
  obtain ⟨x, hx⟩ : ∃ x, L[j / F.k]? = some x := ⟨_, List.getElem?_eq_getElem hd⟩
  have hm := Nat.mod_lt j F.hk.1
  obtain ⟨u', hu'⟩ : ∃ u', (F.cells x)[j % F.k]? = some u' := ⟨_, List.getElem?_eq_getElem (by rw [F.len]; exact hm)⟩
  have := elC_at F L _ x hx _ u' hu'
  have e : j / F.k * F.k + j % F.k = j := by rw [Nat.mul_comm]; exact Nat.div_add_mod j F.k
  rw [e, h] at this
  exact ⟨x, hx, by rw [hu', this]⟩
theorem elC_one (F : El E) (L : List E) : ∀ u ∈ elC F L, u.oneCell' = true := fun u hu => by
  obtain ⟨x, _, hx⟩ := List.mem_flatMap.1 hu
  exact F.one x u hx
theorem OwE.form (h : OwE F B w v L) : ∃ A c, v = .slice A L.length c ∧ L.length ≤ c := by
  rcases h.2 with ⟨rfl, h0⟩ | ⟨g, cap, cur, rfl, _, _, _, hc, _⟩
  · rw [h0]; exact ⟨none, 0, rfl, Nat.le_refl _⟩
  · exact ⟨_, cap, rfl, by omega⟩
theorem OwE.off (h : OwE F B w v L) (ho : Off S w w') (hs : ∀ k, v.ownBlock = some k → ¬ S k) : OwE F B w' v L := by
  refine ⟨h.1, ?_⟩
  rcases h.2 with hn | ⟨g, cap, cur, rfl, hb, hgg, rest⟩
  · exact .inl hn
  · exact .inr ⟨g, cap, cur, rfl, hb, (ho.block g (Array.getElem?_eq_some_iff.1 hgg).1 (hs g rfl)).trans hgg, rest⟩
theorem OwE.up (h : OwE F B w v L) (hb : Below w.heap.size w w') : OwE F B w' v L := h.off (S := fun _ => False) (Off.of_below hb) (fun _ _ => id)
theorem OwE.lt (h : OwE F B w v L) {k : Nat} (hk : v.ownBlock = some k) : B ≤ k ∧ k < w.heap.size := World.ownsRow.lt h k hk
theorem OwE.mono (h : OwE F B w v L) {B' : Nat} (hb : B' ≤ B) : OwE F B' w v L := World.ownsRow.mono h hb
theorem addr0 (G j : Nat) : (⟨G, 0, none⟩ : Addr).add j = ⟨G, j, none⟩ := by unfold Addr.add; split <;> simp_all
theorem addrO (G o j : Nat) : (⟨G, o, none⟩ : Addr).add j = ⟨G, o + j, none⟩ := by unfold Addr.add; split <;> simp_all
theorem OwE.rg {n c : Nat} (h : OwE F B w (.slice A n c) L) : EAt F w A L := ⟨fun hp => by
  obtain ⟨G, cap, hG, hcap, _⟩ := World.ownsRow.form h hp
  have hlt := World.ownsRow.lt h
  have hrow := h
  rw [hG] at hlt
  cases hG
  refine ⟨G, 0, rfl, (hlt G rfl).2, fun i x hx j u hu => ?_⟩
  have c0 := World.ownsRow.cells hrow (g := G) rfl _ _ (elC_at F L i x hx j u hu)
  rw [addr0] at c0
  rw [Nat.zero_add]
  exact c0⟩
theorem OwE.own {n c : Nat} (h : OwE F B w (.slice A n c) L) {k : Nat} (hk : eO A L.length k) : (Value.slice A n c).ownBlock = some k := by
  obtain ⟨hp, o, rfl⟩ := hk
  obtain ⟨G, cap, hG, _⟩ := World.ownsRow.form h hp
  cases hG
  rfl
theorem OwE.frozen {n c : Nat} (h : OwE F B w (.slice A n c) L) {k : Nat} (hk : (Value.slice A n c).ownBlock = some k) (j : Nat) : w.frozen? ⟨k, j, none⟩ = false := by
  rcases h.2 with ⟨e, _⟩ | ⟨g, cap, cur, e, hb, hg, _⟩
  · rw [e] at hk; cases hk
  · rw [e] at hk
    cases hk
    unfold World.frozen?
    simp only
    rw [hg]
    simp
theorem OwE.nil (F : El E) (w : World) (B : Nat) : OwE F B w (.slice none 0 0) [] := ⟨by simp [elC], .inl ⟨rfl, rfl⟩⟩
theorem OwE.lit (F : El E) (w : World) : OwE F w.heap.size (w.alloc (.cells #[] F.el)) (.slice (some ⟨w.heap.size, 0, none⟩) 0 0) [] :=
  ⟨by simp [elC], .inr ⟨w.heap.size, 0, #[], rfl, Nat.le_refl _, heap_alloc_new w _, by simp [elC], by simp, by simp, by simp [elC]⟩⟩
theorem EAt.nil (F : El E) (w : World) (A : Option Addr) : EAt F w A [] := ⟨fun h => by simp at h⟩
theorem EAt.off (h : EAt F w A L) (ho : Off S w w') (hs : ∀ k, S k → ¬ eO A L.length k) : EAt F w' A L := ⟨fun hp => by
  obtain ⟨g, o, rfl, hg, hc⟩ := h.at_ hp
  have hng : ¬ S g := fun e => hs g e ⟨hp, o, rfl⟩
  exact ⟨g, o, rfl, Nat.lt_of_lt_of_le hg ho.size, fun i x hx j u hu => (ho.cell (p := ⟨g, _, none⟩) hg hng).trans (hc i x hx j u hu)⟩⟩
theorem EAt.up (h : EAt F w A L) (hb : Below w.heap.size w w') : EAt F w' A L := h.off (S := fun _ => False) (Off.of_below hb) (fun _ => False.elim)
theorem EAt.lt (h : EAt F w A L) {k : Nat} (hk : eO A L.length k) : k < w.heap.size := by
  obtain ⟨hp, o, rfl⟩ := hk
  obtain ⟨g, o', e, hg, _⟩ := h.at_ hp
  cases e
  exact hg
/-- The first ones of a row. -/
theorem EAt.take (h : EAt F w A L) (n : Nat) : EAt F w A (L.take n) := ⟨fun hp => by
  obtain ⟨g, o, rfl, hg, hc⟩ := h.at_ (by rw [List.length_take] at hp; omega)
  exact ⟨g, o, rfl, hg, fun i x hx => hc i x (by
    rw [List.getElem?_take] at hx
    split at hx
    · exact hx
    · cases hx)⟩⟩
/-- Those from the n-th on. -/
theorem EAt.drop {g o n : Nat} (h : EAt F w (some ⟨g, o, none⟩) L) : EAt F w (some ⟨g, o + n * F.k, none⟩) (L.drop n) := ⟨fun hp => by
  obtain ⟨g', o', e, hg, hc⟩ := h.at_ (by rw [List.length_drop] at hp; omega)
  cases e
  refine ⟨g, o + n * F.k, rfl, hg, fun i x hx j u hu => ?_⟩
  rw [List.getElem?_drop] at hx
  have := hc _ x hx j u hu
  rw [show o + n * F.k + i * F.k + j = o + (n + i) * F.k + j by rw [Nat.add_mul]; omega]
  exact this⟩
/-- append of a row. -/
theorem OwE.app (h : OwE F B w v L) (hBw : B ≤ w.heap.size) {a : Addr} {m c : Nat} (hm : m = M.length) (hM : EAt F w (some a) M) (hlen : L.length + M.length ≤ 4194304) (ty : TypeId) :
    ∃ A' c' w', (Builtin.append_ #[F.sl, F.sl] ty #[v, .slice (some a) m c]).run Tryz.prog w = .ok (.slice A' (L ++ M).length c') w' ∧ OwE F B w' (.slice A' (L ++ M).length c') (L ++ M) ∧ Off (fun k => v.ownBlock = some k) w w' ∧ ((Value.slice A' (L ++ M).length c').ownBlock = v.ownBlock ∨ (Value.slice A' (L ++ M).length c').ownBlock = some w.heap.size) := by
  subst hm
  obtain ⟨i0, hi, hz0, hz1, hz2⟩ := info_parts F.hi
  obtain ⟨v', w', hr, ho, hg, _, hat⟩ := run_append_own_at (P := Tryz.prog) w B F.sl ty F.el i0 _ F.k F.bytes F.ht hi hz0 hz1 hz2 F.hzs F.hk.1 v L.length (elC F L) h a M.length c (elC F M)
    (elC_len F M) (fun j u hj => by
      obtain ⟨x, hx, hxu⟩ := elC_inv F M j u hj
      have hp : 0 < M.length := Nat.lt_of_le_of_lt (Nat.zero_le _) (List.getElem?_eq_some_iff.1 hx).1
      obtain ⟨g, o, e, hg, hc⟩ := hM.at_ hp
      cases e
      rw [addrO]
      have := hc _ x hx _ u hxu
      have e2 : j / F.k * F.k + j % F.k = j := by rw [Nat.mul_comm]; exact Nat.div_add_mod j F.k
      rw [Nat.add_assoc, e2] at this
      exact this) (elC_one F M) (by unfold maxLen; omega) (Nat.le_trans (Nat.mul_le_mul hlen F.hb64) (by decide)) hBw
  have ho' : OwE F B w' v' (L ++ M) := by
    unfold OwE
    rw [List.length_append, elC_app]
    exact ho
  obtain ⟨A', c', rfl, _⟩ := ho'.form
  exact ⟨A', c', w', hr, ho', grown_off hg, hat⟩
/-- append of nothing, nil. -/
theorem OwE.app0 (h : OwE F B w v L) (ty : TypeId) (c : Nat) : ∃ A' c', v = .slice A' L.length c' := by
  obtain ⟨A', c', e, _⟩ := h.form
  exact ⟨A', c', e⟩
/-- A new block with an element's cells. -/
theorem EAt.one (F : El E) (w : World) (x : E) (t : TypeId) : EAt F (w.alloc (.cells (F.cells x).toArray t)) (some ⟨w.heap.size, 0, none⟩) [x] := ⟨fun _ => ⟨w.heap.size, 0, rfl, by simp, fun i y hy j u hu => by
  cases i with
  | zero =>
    simp at hy
    subst hy
    rw [Nat.zero_mul, Nat.zero_add, cell_of_row _ _ _ _ _ _ (heap_alloc_new w _)]
    simpa using hu
  | succ i => simp at hy⟩⟩
/-- One more element at the end. -/
theorem OwE.push (h : OwE F B w v L) (hBw : B ≤ w.heap.size) {g c : Nat} (x : E) (hx : EAt F w (some ⟨g, 0, none⟩) [x]) (hlen : L.length ≤ 4000000) (ty : TypeId) :
    ∃ A' c' w', (Builtin.append_ #[F.sl, F.sl] ty #[v, .slice (some ⟨g, 0, none⟩) 1 c]).run Tryz.prog w = .ok (.slice A' (L.length + 1) c') w' ∧ OwE F B w' (.slice A' (L.length + 1) c') (L ++ [x]) ∧ Off (fun k => v.ownBlock = some k) w w' ∧ ((Value.slice A' (L.length + 1) c').ownBlock = v.ownBlock ∨ (Value.slice A' (L.length + 1) c').ownBlock = some w.heap.size) := by
  obtain ⟨A', c', w', hr, ho, hof, hat⟩ := h.app (M := [x]) (m := 1) (c := c) hBw rfl hx (by simp; omega) ty
  rw [List.length_append, List.length_singleton] at hr ho hat
  exact ⟨A', c', w', hr, ho, hof, hat⟩
end
/-- The row in new memory. -/
def FrE {E : Type} (F : El E) (w0 w : World) (v : Value) (L : List E) : Prop := OwE F w0.heap.size w v L ∧ Below w0.heap.size w0 w
section
variable {E : Type} {F : El E} {B : Nat} {w0 w w' wa : World} {v : Value} {L M : List E} {S : Nat → Prop} {A : Option Addr}
theorem FrE.nil (F : El E) (w : World) : FrE F w w (.slice none 0 0) [] := ⟨OwE.nil _ _ _, Below.refl _ _⟩
theorem FrE.up (h : FrE F w0 w v L) (hb : Below w.heap.size w w') : FrE F w0 w' v L := ⟨h.1.up hb, h.2.trans (hb.mono h.2.size)⟩
theorem FrE.lit (F : El E) (w : World) : FrE F w (w.alloc (.cells #[] F.el)) (.slice (some ⟨w.heap.size, 0, none⟩) 0 0) [] := ⟨OwE.lit F w, (Below.refl _ _).alloc (Nat.le_refl _) _⟩
/-- One more, out of a block that was made just now. -/
theorem FrE.push (h : FrE F w0 w v L) (x : E) (t : TypeId) (hlen : L.length ≤ 4000000) (ty : TypeId) :
    ∃ A' c' w', (Builtin.append_ #[F.sl, F.sl] ty #[v, .slice (some ⟨w.heap.size, 0, none⟩) 1 1]).run Tryz.prog (w.alloc (.cells (F.cells x).toArray t)) = .ok (.slice A' (L.length + 1) c') w' ∧ FrE F w0 w' (.slice A' (L.length + 1) c') (L ++ [x]) ∧ Off (fun k => v.ownBlock = some k) w w' := by
  have hb : Below w.heap.size w (w.alloc (.cells (F.cells x).toArray t)) := (Below.refl _ _).alloc (Nat.le_refl _) _
  have hrow := EAt.one F w x t
  have hob : Off (fun k => v.ownBlock = some k) w (w.alloc (.cells (F.cells x).toArray t)) := Off.of_below hb
  generalize w.alloc (.cells (F.cells x).toArray t) = W1 at *
  have h1 := h.up hb
  have hs := h.2.size
  have hbs := hb.size
  obtain ⟨A', c', w', hr, ho, hof, hat⟩ := h1.1.push (by omega) (c := 1) x hrow hlen ty
  exact ⟨A', c', w', hr, ⟨ho, h1.2.trans (hof.below (fun k e => (h1.1.lt e).1) h1.2.size)⟩, hob.trans hof⟩
/-- A row more at the end. -/
theorem FrE.app (h : FrE F w0 w v L) {a : Addr} {c : Nat} (hM : EAt F w (some a) M) (hlen : L.length + M.length ≤ 4194304) (ty : TypeId) :
    ∃ A' c' w', (Builtin.append_ #[F.sl, F.sl] ty #[v, .slice (some a) M.length c]).run Tryz.prog w = .ok (.slice A' (L ++ M).length c') w' ∧ FrE F w0 w' (.slice A' (L ++ M).length c') (L ++ M) ∧ Off (fun k => v.ownBlock = some k) w w' := by
  obtain ⟨A', c', w', hr, ho, hof, hat⟩ := h.1.app (m := M.length) (c := c) h.2.size rfl hM hlen ty
  exact ⟨A', c', w', hr, ⟨ho, h.2.trans (hof.below (fun k e => (h.1.lt e).1) h.2.size)⟩, hof⟩
theorem FrE.ge (h : FrE F w0 w v L) {k : Nat} (hk : v.ownBlock = some k) : w0.heap.size ≤ k ∧ k < w.heap.size := h.1.lt hk
end
end Go.Proofs.YtlhfjaagkgengaaGreat
