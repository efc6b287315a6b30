/- BlobsAny: helpers for its walk. -/
import Derived.Test.YtlmgihnnphmmhaaSbZ
import Derived.Test.YtlmgihnnphmmhaaYeZ
import Derived.Test.YtlmgihnnphmmhaaYfZ
import Derived.Test.YtlmgihnnphmmhaaYgZ
import Derived.Laws.CopyOwn
namespace Go.Proofs.Ytlmgihnnphmmhaa
open Go.RowKit
set_option linter.unusedVariables false
set_option linter.unusedSimpArgs false

theorem SBy.of_row {w : World} {g : Nat} {F : Bytes} {t : TypeId} {p : Nat × Nat} (h : w.heap[g]? = some (.cells (F.map bv).toArray t p)) : SBy w (some ⟨g, 0, none⟩) F.length F := by
  refine ⟨rfl, fun hp => ⟨g, 0, rfl, (Array.getElem?_eq_some_iff.1 h).1, fun k hk => ?_⟩⟩
  rw [Nat.zero_add, cell_of_row _ _ _ _ _ _ h, at8_get hk]
  simp [hk, bv]
theorem made_bytes (n : Nat) : madeCells #[.int .u8 0] n = ((zeros n).map bv).toArray := by
  apply Array.ext_getElem?
  intro i
  by_cases hi : i < n
  · rw [made_at _ _ _ hi]
    simp [zeros, hi, Nat.mod_one, bv]
  · rw [Array.getElem?_eq_none (by rw [size_madeCells]; omega), Array.getElem?_eq_none (by simp [zeros]; omega)]
theorem splice_map (L M : Bytes) (o : Nat) : splice (L.map bv) o (M.map bv) = (splice L o M).map bv := by
  unfold splice
  simp
/-- The disk alone has changed, and has more blocks. -/
theorem StAt.disk2 {B : Nat} {w w' : World} {P D T M : Nat} {O O' : Nat → Prop} {s : StS} (h : StAt B w P D T M O s) {d : DkS} (hd : DkAt B w' D d O') (ho : Off O w w') (hO' : ∀ g, O' g → O g ∨ w.heap.size ≤ g) (hS : d.S = s.d.S) (hz : d.z = s.d.z) : StAt B w' P D T M O' { s with d := d } := by
  obtain ⟨l1, l2, l3, l4⟩ := h.lts
  obtain ⟨d1, d2, d3, d4, d5⟩ := h.dis
  have c : ∀ j, w'.cell? ⟨P, j, none⟩ = w.cell? ⟨P, j, none⟩ := fun j => ho.cell (p := ⟨P, j, none⟩) l1 d1
  have n : ∀ g, g < w.heap.size → ¬ O g → ¬ O' g := fun g hg hn e => by
    rcases hO' g e with h1 | h1
    · exact hn h1
    · omega
  exact ⟨⟨h.bx.up c, (c 9).trans h.c9, (c 10).trans h.c10, (c 11).trans h.c11, (c 12).trans h.c12, fun j => (ho.frozen (p := ⟨P, j, none⟩) l1 d1).trans (h.zf j), hd, h.tb.off ho d2 d3, h.lo, ⟨n P l1 d1, n T l2 d2, n M l3 d3, d4, d5⟩⟩, ⟨h.ok.ok, hS.trans h.ok.dS, hz.trans h.ok.dz, h.ok.tn, h.ok.opn, h.ok.one, h.ok.usl, h.ok.us0, h.ok.uk⟩⟩
/-- What Get tells of whatever place. -/
def GaPost (O : Nat → Prop) (w : World) (res : Bool) (e : Ending) (w' : World) : Prop :=
  ∃ A' n' c' er, e = .returned (.tuple #[.slice A' n' c', .int .i64 ((er : Nat) : Int)]) ∧ Off O w w' ∧ ((res = false ∧ er = 1 ∧ n' = 0) ∨ (res = true ∧ er = 0) ∨ (res = true ∧ er = 20 ∧ n' = 0))
theorem unFrame_err {F : Bytes} {n : Nat} (h : (unFrame F n).2 ≠ 0) : (unFrame F n).1 = [] := by
  unfold unFrame at *
  by_cases h1 : (rdFrame F).2.2.2 ≠ 0
  · rw [if_pos h1]
  rw [if_neg h1] at h ⊢
  by_cases h2 : (rdFrame F).1 ≠ 1
  · rw [if_pos h2]
  rw [if_neg h2] at h ⊢
  by_cases h3 : (rdFrame F).2.2.1 ≠ n
  · rw [if_pos h3]
  rw [if_neg h3] at h ⊢
  by_cases h4 : (unpackB 1048576 (rdFrame F).2.1).2 ≠ 0
  · rw [if_pos h4]
  · rw [if_neg h4] at h
    exact absurd rfl h
theorem unFrame_er' (F : Bytes) (n : Nat) : (unFrame F n).2 = 0 ∨ (unFrame F n).2 = 20 := by
  by_cases h : (unFrame F n).2 = 0
  · exact .inl h
  · right
    unfold unFrame at *
    by_cases h1 : (rdFrame F).2.2.2 ≠ 0
    · rw [if_pos h1]
    rw [if_neg h1] at h ⊢
    by_cases h2 : (rdFrame F).1 ≠ 1
    · rw [if_pos h2]
    rw [if_neg h2] at h ⊢
    by_cases h3 : (rdFrame F).2.2.1 ≠ n
    · rw [if_pos h3]
    rw [if_neg h3] at h ⊢
    by_cases h4 : (unpackB 1048576 (rdFrame F).2.1).2 ≠ 0
    · rw [if_pos h4]
    · rw [if_neg h4] at h
      exact absurd rfl h
theorem getAny_any {B : Nat} {w : World} {P D T M : Nat} {O : Nat → Prop} {s : StS} (h : StAt B w P D T M O s) (hof : s.d.off = false) {a n : Int} {res : Bool} (hres : res = true → RightI s.c a n) (hr : ∀ w, Calls Try.prog 36 #[s.c.val, addrV a n] w fun e w' => e = .returned (.bool res) ∧ Below w.heap.size w w') :
    Calls Try.prog 14 #[.pointer (some ⟨P, 0, none⟩), addrV a n] w (GaPost O w res) := by
  cases res with
  | false =>
    exact (stGetArg_any h hr).mono fun e w' ⟨he, hb⟩ => ⟨none, 0, 0, 1, he, Off.of_below hb, .inl ⟨rfl, rfl, rfl⟩⟩
  | true =>
    obtain ⟨k, a', n', rfl, rfl, hrn⟩ := hres rfl
    refine (stGet_any h hrn hof).mono fun e w' hq => ?_
    obtain ⟨A', m, c', he, ⟨w1, hf, _⟩, hst, ho⟩ := hq
    refine ⟨A', m, c', _, he, ho, ?_⟩
    have hl := hf.len
    rcases unFrame_er' ((s.d.joinR a' (secs s.d.z n')).take n') n' with h0 | h0
    · exact .inr (.inl ⟨rfl, h0⟩)
    · refine .inr (.inr ⟨rfl, h0, ?_⟩)
      have h1 := unFrame_err (F := (s.d.joinR a' (secs s.d.z n')).take n') (n := n') (by rw [h0]; omega)
      have h2 : (s.d.getB a' n').1 = [] := h1
      rw [h2] at hl
      exact hl.symm
/-- The second store of BlobsAny, behind the Put. -/
structure AnyS (w wc W : World) (c : Cfg) (B6 Wb P D T M a N : Nat) (O : Nat → Prop) (s : StS) : Prop where
  bx : BoxC W w.heap.size c
  t0 : W.cell? ⟨B6, 0, none⟩ = some (.int .i64 (a : Nat))
  t1 : W.cell? ⟨B6, 1, none⟩ = some (.int .i64 (N : Nat))
  c9 : W.cell? ⟨Wb, 9, none⟩ = some (.pointer (some ⟨D, 0, none⟩))
  c10 : W.cell? ⟨Wb, 10, none⟩ = some (.pointer (some ⟨P, 0, none⟩))
  st : StAt wc.heap.size W P D T M O s
  bel : Below w.heap.size w W
  dO : ¬ O w.heap.size ∧ ¬ O B6 ∧ ¬ O Wb
  lw : w.heap.size < wc.heap.size ∧ wc.heap.size ≤ W.heap.size
section
variable {w wc W W' : World} {c : Cfg} {B6 Wb P D T M a N : Nat} {O O' : Nat → Prop} {s : StS}
theorem AnyS.cells (h : AnyS w wc W c B6 Wb P D T M a N O s) (ho : Off O W W') : BoxC W' w.heap.size c ∧ W'.cell? ⟨B6, 0, none⟩ = some (.int .i64 (a : Nat)) ∧ W'.cell? ⟨B6, 1, none⟩ = some (.int .i64 (N : Nat)) ∧ W'.cell? ⟨Wb, 9, none⟩ = some (.pointer (some ⟨D, 0, none⟩)) ∧ W'.cell? ⟨Wb, 10, none⟩ = some (.pointer (some ⟨P, 0, none⟩)) ∧ Below w.heap.size w W' := by
  obtain ⟨d1, d2, d3⟩ := h.dO
  obtain ⟨l1, l2⟩ := h.lw
  refine ⟨h.bx.up fun j => ho.cell (p := ⟨w.heap.size, j, none⟩) (by show w.heap.size < _; omega) d1, (ho.cell (p := ⟨B6, 0, none⟩) (lt_of_cell h.t0) d2).trans h.t0, (ho.cell (p := ⟨B6, 1, none⟩) (lt_of_cell h.t1) d2).trans h.t1, (ho.cell (p := ⟨Wb, 9, none⟩) (lt_of_cell h.c9) d3).trans h.c9, (ho.cell (p := ⟨Wb, 10, none⟩) (lt_of_cell h.c10) d3).trans h.c10, ?_⟩
  exact h.bel.trans (ho.below (fun g hg => by have := (h.st.lts.2.2.2 g hg).1; omega) h.bel.size)
theorem AnyS.up (h : AnyS w wc W c B6 Wb P D T M a N O s) (hb : Below W.heap.size W W') : AnyS w wc W' c B6 Wb P D T M a N O s := by
  obtain ⟨q, t0, t1, c9, c10, _⟩ := h.cells (Off.of_below hb)
  exact ⟨q, t0, t1, c9, c10, h.st.up hb, below_upto h.bel hb (Nat.le_refl _), h.dO, h.lw.1, Nat.le_trans h.lw.2 hb.size⟩
theorem AnyS.burst (h : AnyS w wc W c B6 Wb P D T M a N O s) {d : DkS} (hd : DkAt wc.heap.size W' D d O') (ho : Off O W W') (hO' : ∀ g, O' g → O g ∨ W.heap.size ≤ g) (hS : d.S = s.d.S) (hz : d.z = s.d.z) : AnyS w wc W' c B6 Wb P D T M a N O' { s with d := d } := by
  obtain ⟨q, t0, t1, c9, c10, hb⟩ := h.cells ho
  obtain ⟨d1, d2, d3⟩ := h.dO
  have n : ∀ g, g < W.heap.size → ¬ O g → ¬ O' g := fun g hg hn e => by
    rcases hO' g e with h1 | h1
    · exact hn h1
    · omega
  have l := h.lw
  exact ⟨q, t0, t1, c9, c10, h.st.disk2 hd ho hO' hS hz, hb, ⟨n _ (by omega) d1, n _ (lt_of_cell h.t0) d2, n _ (lt_of_cell h.c9) d3⟩, l.1, Nat.le_trans l.2 ho.size⟩
theorem AnyS.read (h : AnyS w wc W c B6 Wb P D T M a N O s) (hd : DkAt wc.heap.size W' D s.d O) (ho : Off O W W') : AnyS w wc W' c B6 Wb P D T M a N O s :=
  h.burst hd ho (fun g => .inl) rfl rfl
end
/-- Bytes that are not the store's. -/
def OwnA (O : Nat → Prop) (W : World) (A : Option Addr) (n : Nat) (L : Bytes) : Prop := SBy W A n L ∧ ∀ b o, A = some ⟨b, o, none⟩ → ¬ O b
theorem OwnA.off {O : Nat → Prop} {W W' : World} {A : Option Addr} {n : Nat} {L : Bytes} (h : OwnA O W A n L) (ho : Off O W W') : OwnA O W' A n L := ⟨h.1.off ho h.2, h.2⟩
theorem OwnA.more {O O' : Nat → Prop} {W W' : World} {A : Option Addr} {n : Nat} {L : Bytes} (h : OwnA O W A n L) (hp : 0 < n) (ho : Off O W W') (hO' : ∀ g, O' g → O g ∨ W.heap.size ≤ g) : OwnA O' W' A n L := by
  refine ⟨h.1.off ho h.2, fun b o e e2 => ?_⟩
  obtain ⟨b', o', e', hb, _⟩ := h.1.2 hp
  rw [e] at e'
  injection e' with e'
  injection e' with e3 e4
  rcases hO' b e2 with h1 | h1
  · exact h.2 b o e h1
  · omega
end Go.Proofs.Ytlmgihnnphmmhaa
