/- The world of almanaclaw14 in memory: a pager, and what its pages must hold. which, read of the world of almanaclaw14. -/
import Derived.Test.YtmipngefpedfpaaWdZ
namespace Go.Proofs.Ytmipngefpedfpaa
open Go.RowKit Go.Maps
set_option linter.unusedVariables false
set_option linter.unusedSimpArgs false

/-- A page as the law keeps it: its number, its bytes and where they lie. -/
structure Pe where
  id : Int
  B : Nat
  c : Nat
  b : Bytes
def Pe.v (x : Pe) : Value := .slice (some ⟨x.B, 0, none⟩) x.b.length x.c
/-- The law's own blocks. -/
def LB (Wb : Nat) (vi vb : Value) (xs : List Pe) (b : Nat) : Prop := b = Wb ∨ vi.ownBlock = some b ∨ vb.ownBlock = some b ∨ ∃ x ∈ xs, x.B = b
structure WL (w0 w : World) (Wb S : Nat) (d : PD) (t : PSt ShS) (vi vb : Value) (is : List Int) (xs : List Pe) : Prop where
  c0 : w.cell? ⟨Wb, 0, none⟩ = some (.pointer (some ⟨d.Q, 0, none⟩))
  c1 : w.cell? ⟨Wb, 1, none⟩ = some (.pointer (some ⟨S, 0, none⟩))
  c2 : w.cell? ⟨Wb, 2, none⟩ = some (.int .i64 (d.z : Nat))
  c3 : w.cell? ⟨Wb, 3, none⟩ = some (.int .i64 (d.n : Nat))
  c4 : w.cell? ⟨Wb, 4, none⟩ = some vi
  c5 : w.cell? ⟨Wb, 5, none⟩ = some vb
  fz : ∀ k, w.frozen? ⟨Wb, k, none⟩ = false
  ri : OwI w0.heap.size w vi is
  rb : w.ownsRow w0.heap.size 22 1 vb xs.length (xs.map Pe.v)
  by_ : ∀ x ∈ xs, ByAt w d.z x.B x.c x.b
  out : ∀ b, LB Wb vi vb xs b → ¬ Own d t b ∧ w0.heap.size ≤ b
  niW : ∀ g, vi.ownBlock = some g → g ≠ Wb
  nbW : ∀ g, vb.ownBlock = some g → g ≠ Wb
  nib : ∀ g h, vi.ownBlock = some g → vb.ownBlock = some h → g ≠ h
  nxW : ∀ x ∈ xs, x.B ≠ Wb ∧ vi.ownBlock ≠ some x.B ∧ vb.ownBlock ≠ some x.B
  nxx : xs.Pairwise fun x y => x.B ≠ y.B
  z16 : 16 ≤ d.z ∧ d.z ≤ 4096
  few : xs.length ≤ 1000 ∧ is.length ≤ 1000
def CnX (xs : List Pe) : Cn := fun id => (xs.find? fun x => decide (x.id = id)).map fun x => some x.b
/-- The law's world: all of it. -/
structure WA (w0 w : World) (Wb S : Nat) (d : PD) (t : PSt ShS) (R : Prop) (k : Nat) (vi vb : Value) (xs : List Pe) : Prop where
  vw : Vw S w0 w d t (CnX xs) R k
  wl : WL w0 w Wb S d t vi vb (xs.map Pe.id) xs
  up : xs.Pairwise fun x y => x.id < y.id
  cm : t.cm = xs.length
section
variable {w0 w w' w1 w2 : World} {Wb S : Nat} {d : PD} {t t' t1 t2 : PSt ShS} {R : Prop} {k k1 : Nat} {vi vb : Value} {xs : List Pe} {is : List Int} {C : Cn}
theorem rowN_off {B sz : Nat} {w w' : World} {v : Value} {t : TypeId} {n : Nat} {xs : List Value} {S : Nat → Prop} (h : w.ownsRow B t sz v n xs) (ho : Off S w w') (hs : ∀ g, v.ownBlock = some g → ¬ S g) : w'.ownsRow B t sz v n xs := by
  refine ⟨h.1, ?_⟩
  rcases h.2 with hn | ⟨g, cap, cur, rfl, hb, hgg, rest⟩
  · exact .inl hn
  · exact .inr ⟨g, cap, cur, rfl, hb, (ho.block g (Array.getElem?_eq_some_iff.1 hgg).1 (hs g rfl)).trans hgg, rest⟩
theorem WL.ltW (h : WL w0 w Wb S d t vi vb is xs) : Wb < w.heap.size := lt_of_cell h.c0
theorem WL.lt (h : WL w0 w Wb S d t vi vb is xs) {b : Nat} (hb : LB Wb vi vb xs b) : b < w.heap.size := by
  rcases hb with rfl | e | e | ⟨x, hx, rfl⟩
  · exact h.ltW
  · exact (h.ri.lt b e).2
  · exact (World.ownsRow.lt h.rb b e).2
  · exact (h.by_ x hx).lt h.z16.1
/-- Other blocks have changed. -/
theorem WL.off {P : Nat → Prop} (h : WL w0 w Wb S d t vi vb is xs) (ho : Off P w w') (hP : ∀ b, LB Wb vi vb xs b → ¬ P b) (hout : ∀ b, LB Wb vi vb xs b → ¬ Own d t' b) : WL w0 w' Wb S d t' vi vb is xs := by
  have hW := hP Wb (.inl rfl)
  have hl := h.ltW
  exact ⟨(ho.cell (p := ⟨Wb, 0, none⟩) hl hW).trans h.c0, (ho.cell (p := ⟨Wb, 1, none⟩) hl hW).trans h.c1, (ho.cell (p := ⟨Wb, 2, none⟩) hl hW).trans h.c2, (ho.cell (p := ⟨Wb, 3, none⟩) hl hW).trans h.c3, (ho.cell (p := ⟨Wb, 4, none⟩) hl hW).trans h.c4, (ho.cell (p := ⟨Wb, 5, none⟩) hl hW).trans h.c5,
    fun k => (ho.frozen (p := ⟨Wb, k, none⟩) hl hW).trans (h.fz k), h.ri.off ho (fun g hg => hP g (.inr (.inl hg))), rowN_off h.rb ho (fun g hg => hP g (.inr (.inr (.inl hg)))), fun x hx => (h.by_ x hx).off h.z16.1 ho (hP x.B (.inr (.inr (.inr ⟨x, hx, rfl⟩)))),
    fun b hb => ⟨hout b hb, (h.out b hb).2⟩, h.niW, h.nbW, h.nib, h.nxW, h.nxx, h.z16, h.few⟩
theorem WL.nx (h : WL w0 w Wb S d t vi vb is xs) (hn : Nx S w w' d t t') : WL w0 w' Wb S d t' vi vb is xs :=
  h.off hn.off (fun b hb => (h.out b hb).1) (fun b hb => (hn.keep (h.lt hb) (h.out b hb).1).2)
theorem WL.up (h : WL w0 w Wb S d t vi vb is xs) (hb : Below w.heap.size w w') : WL w0 w' Wb S d t vi vb is xs :=
  h.off (P := fun _ => False) (Off.of_below hb) (fun _ _ => id) (fun b hb => (h.out b hb).1)
theorem WA.up' (h : WA w0 w Wb S d t R k vi vb xs) (hb : Below w.heap.size w w') : WA w0 w' Wb S d t R k vi vb xs := ⟨h.vw.up hb, h.wl.up hb, h.up, h.cm⟩
theorem WA.less (h : WA w0 w Wb S d t R k vi vb xs) (hk : k1 ≤ k) : WA w0 w Wb S d t R k1 vi vb xs := ⟨h.vw.less hk, h.wl, h.up, h.cm⟩
/-- Pages are as they were. -/
theorem WA.nx (h : WA w0 w Wb S d t R k vi vb xs) (hv : Vw S w0 w' d t' (CnX xs) R k1) (hn : Nx S w w' d t t') (hm : Nm d t t') : WA w0 w' Wb S d t' R k1 vi vb xs :=
  ⟨hv, h.wl.nx hn, h.up, hm.cm.trans h.cm⟩
theorem CnX_at (h : xs.Pairwise fun x y => x.id < y.id) {x : Pe} (hx : x ∈ xs) : CnX xs x.id = some (some x.b) := by
  unfold CnX
  have : xs.find? (fun y => decide (y.id = x.id)) = some x := by
    induction xs with
    | nil => cases hx
    | cons y ys ih =>
      rw [List.pairwise_cons] at h
      by_cases hy : y.id = x.id
      · rw [List.find?_cons_of_pos (by simpa using hy)]
        rcases List.mem_cons.1 hx with e | e
        · rw [e]
        · have := h.1 x e; omega
      · rw [List.find?_cons_of_neg (by simpa using hy)]
        rcases List.mem_cons.1 hx with e | e
        · rw [e] at hy; exact absurd rfl hy
        · exact ih h.2 e
  rw [this]
  rfl
theorem CnX_none {id : Int} (h : ∀ x ∈ xs, x.id ≠ id) : CnX xs id = none := by
  unfold CnX
  rw [List.find?_eq_none.2 (fun x hx => by simpa using h x hx)]
  rfl
theorem CnX_some {id : Int} {o : Option Bytes} (h : CnX xs id = some o) : ∃ x ∈ xs, x.id = id ∧ o = some x.b := by
  unfold CnX at h
  cases hf : xs.find? (fun x => decide (x.id = id)) with
  | none => rw [hf] at h; cases h
  | some x =>
    rw [hf] at h
    have h1 := List.find?_some hf
    have h2 := List.mem_of_find?_eq_some hf
    exact ⟨x, h2, by simpa using h1, by simpa using h.symm⟩
/-- A page behind the others. -/
theorem CnX_more {x : Pe} (hx : ∀ y ∈ xs, y.id < x.id) : CnX (xs ++ [x]) = updC (CnX xs) x.id (some (some x.b)) := by
  funext k
  unfold updC
  by_cases hk : k = x.id
  · rw [if_pos hk, hk]
    unfold CnX
    rw [List.find?_append, List.find?_eq_none.2 (fun y hy => by have := hx y hy; simp; omega)]
    simp
  · rw [if_neg hk]
    unfold CnX
    rw [List.find?_append]
    cases hf : xs.find? (fun y => decide (y.id = k)) with
    | some y => rfl
    | none => simp [Ne.symm hk]
/-- A page's bytes are other ones. -/
def setX (xs : List Pe) (q : Nat) (b : Bytes) : List Pe := xs.modify q fun x => { x with b := b }
theorem WA.ids (h : WA w0 w Wb S d t R k vi vb xs) {x : Pe} (hx : x ∈ xs) : 1 ≤ x.id ∧ x.id < t.nx ∧ t.pm x.id ≠ none ∧ x.b.length = d.z := by
  have hC := CnX_at h.up hx
  obtain ⟨h1, h2⟩ := h.vw.id1 _ _ hC
  obtain ⟨y, h3, _, h4⟩ := h.vw.con _ _ hC
  exact ⟨h1, h2, by rw [h3]; simp, h4⟩
/-- What the law's words hold. -/
theorem WL.formI' (h : WL w0 w Wb S d t vi vb is xs) : ∃ A c, vi = .slice A is.length c ∧ is.length ≤ c ∧ (0 < is.length → ∃ g, A = some ⟨g, 0, none⟩ ∧ vi.ownBlock = some g ∧ g < w.heap.size ∧ ∀ (q : Nat), q < is.length → w.cell? ⟨g, q, none⟩ = some (.int .i64 (is.getD q 0))) := by
  obtain ⟨A, c, e, h1, _, h3, h4, h5⟩ := h.ri.form
  refine ⟨A, c, e, h1, fun hp => ?_⟩
  obtain ⟨g, hg⟩ := h5 (fun e0 => by have := congrArg List.length (h3 e0); simp at this; rw [this] at hp; simp at hp)
  obtain ⟨_, g1, g2, _, g3⟩ := h4 g 0 hg
  refine ⟨g, hg, g1, g2, fun q hq => ?_⟩
  have := g3 q hq
  rw [Nat.zero_add] at this
  exact this
theorem WL.formI (h : WL w0 w Wb S d t vi vb (xs.map Pe.id) xs) : ∃ A c, vi = .slice A xs.length c ∧ xs.length ≤ c ∧ (0 < xs.length → ∃ g, A = some ⟨g, 0, none⟩ ∧ vi.ownBlock = some g ∧ g < w.heap.size ∧ ∀ (q : Nat) x, xs[q]? = some x → w.cell? ⟨g, q, none⟩ = some (.int .i64 x.id)) := by
  obtain ⟨A, c, e, h1, h2⟩ := h.formI'
  rw [List.length_map] at e h1 h2
  refine ⟨A, c, e, h1, fun hp => ?_⟩
  obtain ⟨g, hg, g1, g2, g3⟩ := h2 hp
  refine ⟨g, hg, g1, g2, fun q x hx => ?_⟩
  have hq : q < xs.length := (List.getElem?_eq_some_iff.1 hx).1
  have := g3 q hq
  rw [List.getD_eq_getElem?_getD, List.getElem?_map, hx] at this
  exact this
theorem WL.formB (h : WL w0 w Wb S d t vi vb is xs) : ∃ A c, vb = .slice A xs.length c ∧ xs.length ≤ c ∧ (0 < xs.length → ∃ g, A = some ⟨g, 0, none⟩ ∧ vb.ownBlock = some g ∧ g < w.heap.size ∧ ∀ (q : Nat) x, xs[q]? = some x → w.cell? ⟨g, q, none⟩ = some x.v) := by
  rcases h.rb.2 with ⟨rfl, h0⟩ | ⟨g, cap, cur, rfl, hb, hg, h1, h2, h3, h4⟩
  · exact ⟨none, 0, by rw [h0], by omega, fun hp => by omega⟩
  · refine ⟨some ⟨g, 0, none⟩, cap, rfl, h1, fun hp => ⟨g, rfl, rfl, (Array.getElem?_eq_some_iff.1 hg).1, fun q x hx => ?_⟩⟩
    have := World.ownsRow.cells h.rb (g := g) rfl q x.v (by rw [List.getElem?_map, hx]; rfl)
    rw [show (⟨g, 0, none⟩ : Addr).add q = ⟨g, q, none⟩ by unfold Addr.add; split <;> simp_all] at this
    exact this
/-- The list of numbers is another one. -/
theorem WL.setI (h : WL w0 w Wb S d t vi vb is xs) (hO : ∀ b, Own d t b → b < w.heap.size) (h0 : w0.heap.size ≤ w.heap.size) {vi' : Value} {is' : List Int} (ho : Off (fun b => vi.ownBlock = some b) w w1) (hr : OwI w0.heap.size w1 vi' is') (hg : ∀ g, vi'.ownBlock = some g → vi.ownBlock = some g ∨ w.heap.size ≤ g) (hf : is'.length ≤ 1000) :
    WL w0 (w1.setCell ⟨Wb, 4, none⟩ vi') Wb S d t vi' vb is' xs ∧ Off (fun b => b = Wb ∨ vi.ownBlock = some b) w (w1.setCell ⟨Wb, 4, none⟩ vi') := by
  have hW : ¬ vi.ownBlock = some Wb := fun e => h.niW Wb e rfl
  have hl := h.ltW
  have hne : ∀ k, k ≠ 4 → (w1.setCell ⟨Wb, 4, none⟩ vi').cell? ⟨Wb, k, none⟩ = w.cell? ⟨Wb, k, none⟩ := fun k hk => by
    rw [World.cell?_setCell_other _ _ _ _ (fun e => by injection e with _ e2; omega)]
    exact ho.cell (p := ⟨Wb, k, none⟩) hl hW
  have ho2 : Off (· = Wb) w1 (w1.setCell ⟨Wb, 4, none⟩ vi') := (Off.refl (· = Wb) w1).setCell (p := ⟨Wb, 4, none⟩) rfl _
  have hvi : ∀ g, vi'.ownBlock = some g → g ≠ Wb ∧ (∀ h', vb.ownBlock = some h' → g ≠ h') ∧ (∀ x ∈ xs, x.B ≠ g) ∧ ¬ Own d t g ∧ w0.heap.size ≤ g := fun g hgg => by
    rcases hg g hgg with e | e
    · exact ⟨h.niW g e, fun h' e' => h.nib g h' e e', fun x hx e' => (h.nxW x hx).2.1 (by rw [e, e']), (h.out g (.inr (.inl e))).1, (h.out g (.inr (.inl e))).2⟩
    · refine ⟨by omega, fun h' e' => ?_, fun x hx e' => ?_, fun e' => ?_, by omega⟩
      · have := (World.ownsRow.lt h.rb h' e').2; omega
      · have := (h.by_ x hx).lt h.z16.1; omega
      · have := hO g e'; omega
  refine ⟨⟨(hne 0 (by omega)).trans h.c0, (hne 1 (by omega)).trans h.c1, (hne 2 (by omega)).trans h.c2, (hne 3 (by omega)).trans h.c3, World.cell?_setCell_same _ _ _ ((ho.cell (p := ⟨Wb, 4, none⟩) hl hW).trans h.c4), (hne 5 (by omega)).trans h.c5,
    fun k => (World.frozen?_setCell _ _ _ _).trans ((ho.frozen (p := ⟨Wb, k, none⟩) hl hW).trans (h.fz k)), hr.off ho2 (fun g e e2 => (hvi g e).1 e2), rowN_off (rowN_off h.rb ho (fun g e e2 => h.nib g g e2 e rfl)) ho2 (fun g e e2 => h.nbW g e e2),
    fun x hx => ((h.by_ x hx).off h.z16.1 ho (h.nxW x hx).2.1).off h.z16.1 ho2 (h.nxW x hx).1, fun b hb => ?_, fun g e => (hvi g e).1, h.nbW, fun g h' e e' => (hvi g e).2.1 h' e', fun x hx => ⟨(h.nxW x hx).1, fun e => (hvi _ e).2.2.1 x hx rfl, (h.nxW x hx).2.2⟩, h.nxx, h.z16, ⟨h.few.1, hf⟩⟩,
    (ho.mono fun b e => .inr e).trans (ho2.mono fun b e => .inl e)⟩
  rcases hb with e | e | e | e
  · exact h.out b (.inl e)
  · exact (hvi b e).2.2.2
  · exact h.out b (.inr (.inr (.inl e)))
  · exact h.out b (.inr (.inr (.inr e)))
/-- The list of bytes is another one. -/
theorem WL.setB (h : WL w0 w Wb S d t vi vb is xs) (hO : ∀ b, Own d t b → b < w.heap.size) (h0 : w0.heap.size ≤ w.heap.size) {vb' : Value} {xs' : List Pe} (ho : Off (fun b => vb.ownBlock = some b) w w1) (hr : w1.ownsRow w0.heap.size 22 1 vb' xs'.length (xs'.map Pe.v)) (hg : ∀ g, vb'.ownBlock = some g → vb.ownBlock = some g ∨ w.heap.size ≤ g) (hf : xs'.length ≤ 1000)
    (hx : ∀ x ∈ xs', x ∈ xs ∨ (w.heap.size ≤ x.B ∧ ByAt w1 d.z x.B x.c x.b ∧ vb'.ownBlock ≠ some x.B)) (hp : xs'.Pairwise fun x y => x.B ≠ y.B) :
    WL w0 (w1.setCell ⟨Wb, 5, none⟩ vb') Wb S d t vi vb' is xs' ∧ Off (fun b => b = Wb ∨ vb.ownBlock = some b) w (w1.setCell ⟨Wb, 5, none⟩ vb') := by
  have hW : ¬ vb.ownBlock = some Wb := fun e => h.nbW Wb e rfl
  have hl := h.ltW
  have hne : ∀ k, k ≠ 5 → (w1.setCell ⟨Wb, 5, none⟩ vb').cell? ⟨Wb, k, none⟩ = w.cell? ⟨Wb, k, none⟩ := fun k hk => by
    rw [World.cell?_setCell_other _ _ _ _ (fun e => by injection e with _ e2; omega)]
    exact ho.cell (p := ⟨Wb, k, none⟩) hl hW
  have ho2 : Off (· = Wb) w1 (w1.setCell ⟨Wb, 5, none⟩ vb') := (Off.refl (· = Wb) w1).setCell (p := ⟨Wb, 5, none⟩) rfl _
  have hvb : ∀ g, vb'.ownBlock = some g → g ≠ Wb ∧ (∀ h', vi.ownBlock = some h' → h' ≠ g) ∧ (∀ x ∈ xs, x.B ≠ g) ∧ ¬ Own d t g ∧ w0.heap.size ≤ g := fun g hgg => by
    rcases hg g hgg with e | e
    · exact ⟨h.nbW g e, fun h' e' => h.nib h' g e' e, fun x hx e' => (h.nxW x hx).2.2 (by rw [e, e']), (h.out g (.inr (.inr (.inl e)))).1, (h.out g (.inr (.inr (.inl e)))).2⟩
    · refine ⟨by omega, fun h' e' => ?_, fun x hx e' => ?_, fun e' => ?_, by omega⟩
      · have := (h.ri.lt h' e').2; omega
      · have := (h.by_ x hx).lt h.z16.1; omega
      · have := hO g e'; omega
  have hxx : ∀ x ∈ xs', ByAt (w1.setCell ⟨Wb, 5, none⟩ vb') d.z x.B x.c x.b ∧ x.B ≠ Wb ∧ vi.ownBlock ≠ some x.B ∧ vb'.ownBlock ≠ some x.B ∧ ¬ Own d t x.B ∧ w0.heap.size ≤ x.B := fun x hxm => by
    rcases hx x hxm with e | ⟨e1, e2, e3⟩
    · exact ⟨((h.by_ x e).off h.z16.1 ho (h.nxW x e).2.2).off h.z16.1 ho2 (h.nxW x e).1, (h.nxW x e).1, (h.nxW x e).2.1, fun e' => (hvb _ e').2.2.1 x e rfl, (h.out x.B (.inr (.inr (.inr ⟨x, e, rfl⟩)))).1, (h.out x.B (.inr (.inr (.inr ⟨x, e, rfl⟩)))).2⟩
    · exact ⟨e2.off h.z16.1 ho2 (by omega), by omega, fun e' => by have := (h.ri.lt _ e').2; omega, e3, fun e' => by have := hO _ e'; omega, by omega⟩
  refine ⟨⟨(hne 0 (by omega)).trans h.c0, (hne 1 (by omega)).trans h.c1, (hne 2 (by omega)).trans h.c2, (hne 3 (by omega)).trans h.c3, (hne 4 (by omega)).trans h.c4, World.cell?_setCell_same _ _ _ ((ho.cell (p := ⟨Wb, 5, none⟩) hl hW).trans h.c5),
    fun k => (World.frozen?_setCell _ _ _ _).trans ((ho.frozen (p := ⟨Wb, k, none⟩) hl hW).trans (h.fz k)), (h.ri.off ho (fun g e e2 => h.nib g g e e2 rfl)).off ho2 (fun g e e2 => h.niW g e e2), rowN_off hr ho2 (fun g e e2 => (hvb g e).1 e2),
    fun x hxm => (hxx x hxm).1, fun b hb => ?_, h.niW, fun g e => (hvb g e).1, fun g h' e e' => (hvb h' e').2.1 g e, fun x hxm => ⟨(hxx x hxm).2.1, (hxx x hxm).2.2.1, (hxx x hxm).2.2.2.1⟩, hp, h.z16, ⟨hf, h.few.2⟩⟩,
    (ho.mono fun b e => .inr e).trans (ho2.mono fun b e => .inl e)⟩
  rcases hb with e | e | e | ⟨x, hxm, e⟩
  · exact h.out b (.inl e)
  · exact h.out b (.inr (.inl e))
  · exact (hvb b e).2.2.2
  · rw [← e]
    exact (hxx x hxm).2.2.2.2
end
end Go.Proofs.Ytmipngefpedfpaa
namespace Go.Proofs.Ytmipngefpedfpaa
open Go.RowKit Go.Maps
set_option linter.unusedVariables false
set_option linter.unusedSimpArgs false

/-- An act that came in. -/
structure Ac where
  op : Int
  page : Int
  off : Int
  n : Int
  A : Option Addr
  nb : Nat
  cb : Nat
  b : Bytes
def Ac.cells (a : Ac) : Array Value := #[.int .i64 a.op, .int .i64 a.page, .int .i64 a.off, .int .i64 a.n, .slice a.A a.nb a.cb]
structure Ac.In (w : World) (a : Ac) : Prop where
  by_ : SBy w a.A a.nb a.b
  p : -9223372036854775808 ≤ a.page ∧ a.page ≤ 9223372036854775807
  o : -9223372036854775808 ≤ a.off ∧ a.off ≤ 9223372036854775807
  n : -9223372036854775808 ≤ a.n ∧ a.n ≤ 9223372036854775807
  m : a.nb ≤ 2 ^ 40
theorem Ac.In.up {w w' : World} {a : Ac} (h : a.In w) (hb : Below w.heap.size w w') : a.In w' := ⟨h.by_.up hb, h.p, h.o, h.n, h.m⟩
theorem turn_mod {t : Int} {n : Nat} (hn : 0 < n) : ∃ q : Nat, q < n ∧ ((0 ≤ t.tmod n ∧ t.tmod n = (q : Int)) ∨ (t.tmod n < 0 ∧ t.tmod n + n = (q : Int))) := by
  have h1 := Int.tmod_lt_of_pos t (b := (n : Int)) (by omega)
  have h2 : -(n : Int) < t.tmod n := by
    have := Int.tmod_lt_of_pos (-t) (b := (n : Int)) (by omega)
    rw [Int.neg_tmod] at this
    omega
  by_cases h : 0 ≤ t.tmod n
  · exact ⟨(t.tmod n).toNat, by omega, .inl ⟨h, by omega⟩⟩
  · exact ⟨(t.tmod n + n).toNat, by omega, .inr ⟨by omega, by omega⟩⟩
theorem sl_sby' {w : World} {A : Option Addr} {n c : Nat} {L : Bytes} (h : SlB w (.slice A n c) L) : SBy w A n L := by
  obtain ⟨A', n', c', e, _, h2⟩ := h
  cases e
  exact h2
section
variable {w0 w w' w1 w2 : World} {Wb S : Nat} {d : PD} {t t' t1 t2 : PSt ShS} {R : Prop} {k k1 : Nat} {vi vb : Value} {xs : List Pe} {C : Cn}
/-- -1, or a place. -/
def WcPost (w : World) (n : Nat) (e : Ending) (w' : World) : Prop := Below w.heap.size w w' ∧ ((n = 0 ∧ e = .returned (.int .i64 (-1))) ∨ ∃ q : Nat, q < n ∧ e = .returned (.int .i64 (q : Nat)))
set_option maxRecDepth 100000 in
set_option maxHeartbeats 1000000 in
theorem which_any (h : WL w0 w Wb S d t vi vb (xs.map Pe.id) xs) (a : Ac) : Calls Try.prog 22 #[.pointer (some ⟨Wb, 0, none⟩), .agg a.cells] w (WcPost w xs.length) := by
  obtain ⟨A, c, rfl, _, _⟩ := h.formI
  have q4 := h.c4
  have lW := h.ltW
  have hfew := h.few.1
  unfold Ac.cells
  clear h
  by_cases h0 : xs.length = 0
  · have HG : Hid (∀ W, Below w.heap.size w W → WcPost w xs.length (.returned (.int .i64 (-1))) W) := Lib.hid fun W hb => ⟨hb, .inl ⟨h0, rfl⟩⟩
    rw [h0] at q4 HG ⊢
    clear h0 hfew
    go_enter Try.func22, Try.ntmps22
    go_wp2
    go_ret
    exact HG.out _ (by go_grown)
  · have hp : 0 < xs.length := by omega
    obtain ⟨q, hq, hqt⟩ := turn_mod (t := a.page) hp
    have HG : Hid (∀ W, Below w.heap.size w W → WcPost w xs.length (.returned (.int .i64 (q : Nat))) W) := Lib.hid fun W hb => ⟨hb, .inr ⟨q, hq, rfl⟩⟩
    generalize xs.length = m at *
    have hne : (m : Int) ≠ 0 := by omega
    have hne2 : ((m : Int) == 0) = false := by simp; omega
    clear h0
    go_enter Try.func22, Try.ntmps22
    go_upto_region 3 with (fail)
    refine wp_forget (fun V => Below w.heap.size w V ∧ V.cell? ⟨w.heap.size, 1, none⟩ = some (.int .i64 a.page)) ⟨by go_grown, ?_⟩ ?_
    · rw [cell_of_row _ _ _ _ _ _ (heap_alloc_new w _)]
      rfl
    rintro V ⟨hb, b1⟩
    have q4' := (hb.cell (p := ⟨Wb, 4, none⟩) lW).trans q4
    have lW' := lt_of_cell q4'
    have lb := lt_of_cell b1
    have HB := Lib.hid hb
    clear hb q4
    refine wp_region_up (by kernel_rfl) (by kernel_rfl) ?_
    repeat (go_big_quiet_step (fail))
    refine wpQuiet_nil ?_
    rintro _ ⟨g, rfl⟩
    have HB2 := Lib.hid (HB.out.trans (g.h.mono HB.out.size))
    have q4'' := (g.h.cell (p := ⟨Wb, 4, none⟩) lW').trans q4'
    clear q4' b1 lb lW'
    generalize hR : a.page.tmod (m : Int) = Rr at hqt
    clear hR
    rcases hqt with ⟨a1, a2⟩ | ⟨a1, a2⟩
    · have H2 := Lib.hid a2
      have h1d : decide (Rr < 0) = false := decide_eq_false (by omega)
      clear a2 a1
      go_wp2
      go_ret
      rw [H2.out]
      exact HG.out _ HB2.out
    · have H2 := Lib.hid a2
      have h1d : decide (Rr < 0) = true := decide_eq_true a1
      have hw : wrap64 (Rr + (m : Int)) = Rr + (m : Int) := by unfold wrap64; omega
      clear a2
      go_wp2
      go_ret
      rw [hw, H2.out]
      exact HG.out _ HB2.out
set_option maxRecDepth 100000 in
set_option maxHeartbeats 4000000 in
theorem wread_out (h : WA w0 w Wb S d t R (k + 1) vi vb xs) {q : Nat} {x : Pe} (hq : xs[q]? = some x) (off n : Int) (hout : ¬ (0 ≤ off ∧ 0 ≤ n ∧ off ≤ (d.z : Int) ∧ n ≤ (d.z : Int) - off)) (hn : -9223372036854775808 ≤ n ∧ n ≤ 9223372036854775807) (ho : -9223372036854775808 ≤ off ∧ off ≤ 9223372036854775807) :
    Calls Try.prog 21 #[.pointer (some ⟨Wb, 0, none⟩), .int .i64 (q : Nat), .int .i64 off, .int .i64 n] w fun e w' => e = .returned (.bool true) ∧ ∃ t', WA w0 w' Wb S d t' R k vi vb xs := by
  have HWA := Lib.hid h
  obtain ⟨hz1, hz2⟩ := h.wl.z16
  have hxs : x ∈ xs := List.mem_of_getElem? hq
  have hCx := CnX_at h.up hxs
  have hpm := (h.ids hxs).2.2.1
  have hql : q < xs.length := (List.getElem?_eq_some_iff.1 hq).1
  obtain ⟨A, c, rfl, _, hI⟩ := h.wl.formI
  obtain ⟨gi, rfl, _, hlg, hci⟩ := hI (by omega)
  have hcq := hci q x hq
  have q0 := h.wl.c0
  have q2 := h.wl.c2
  have q4 := h.wl.c4
  have lW := h.wl.ltW
  clear hI hci hq hxs
  have hqI : (q : Int) < (xs.length : Int) := by omega
  by_cases c1 : off < 0
  · clear hout
    have HC := Lib.hid (fun (W : World) (hb : Below w.heap.size w W) => vw_read_out (h.vw.up hb) hCx (off := off) (n := n) (by rw [Bool.eq_false_iff]; intro e; have := inB_iff.1 e; omega) hpm)
    clear h
    go_enter Try.func21, Try.ntmps21
    go_wp2
    refine wp_region_up_tail 13 (by kernel_rfl) (by kernel_rfl) (by kernel_rfl) ?_
    simp only [List.take_succ_cons, List.take_zero, List.drop_succ_cons, List.drop_zero]
    repeat (go_big_quiet_step (fail))
    refine wpQuiet_nil ?_
    rintro _ ⟨g, rfl⟩
    go_wp2_with fail
    refine (HC.out _ g.h).mono ?_
    rintro e w3 ⟨t3, rfl, hv3, hn3, he3, hm3⟩
    have HW := Lib.hid ((HWA.out.up' g.h).nx hv3 hn3 hm3)
    have q2' := HW.out.wl.c2
    clear hv3 hn3 he3 hm3 HC q0 q2 q4 hcq hlg lW
    go_wp2
    go_ret
    exact ⟨rfl, t3, HW.out⟩
  by_cases c2 : n < 0
  · clear hout
    have HC := Lib.hid (fun (W : World) (hb : Below w.heap.size w W) => vw_read_out (h.vw.up hb) hCx (off := off) (n := n) (by rw [Bool.eq_false_iff]; intro e; have := inB_iff.1 e; omega) hpm)
    clear h
    go_enter Try.func21, Try.ntmps21
    go_wp2
    refine wp_region_up_tail 13 (by kernel_rfl) (by kernel_rfl) (by kernel_rfl) ?_
    simp only [List.take_succ_cons, List.take_zero, List.drop_succ_cons, List.drop_zero]
    repeat (go_big_quiet_step (fail))
    refine wpQuiet_nil ?_
    rintro _ ⟨g, rfl⟩
    go_wp2_with fail
    refine (HC.out _ g.h).mono ?_
    rintro e w3 ⟨t3, rfl, hv3, hn3, he3, hm3⟩
    have HW := Lib.hid ((HWA.out.up' g.h).nx hv3 hn3 hm3)
    have q2' := HW.out.wl.c2
    clear hv3 hn3 he3 hm3 HC q0 q2 q4 hcq hlg lW
    go_wp2
    go_ret
    exact ⟨rfl, t3, HW.out⟩
  by_cases c3 : (d.z : Int) < off
  · clear hout
    have HC := Lib.hid (fun (W : World) (hb : Below w.heap.size w W) => vw_read_out (h.vw.up hb) hCx (off := off) (n := n) (by rw [Bool.eq_false_iff]; intro e; have := inB_iff.1 e; omega) hpm)
    clear h
    go_enter Try.func21, Try.ntmps21
    go_wp2
    refine wp_region_up_tail 13 (by kernel_rfl) (by kernel_rfl) (by kernel_rfl) ?_
    simp only [List.take_succ_cons, List.take_zero, List.drop_succ_cons, List.drop_zero]
    repeat (go_big_quiet_step (fail))
    refine wpQuiet_nil ?_
    rintro _ ⟨g, rfl⟩
    go_wp2_with fail
    refine (HC.out _ g.h).mono ?_
    rintro e w3 ⟨t3, rfl, hv3, hn3, he3, hm3⟩
    have HW := Lib.hid ((HWA.out.up' g.h).nx hv3 hn3 hm3)
    have q2' := HW.out.wl.c2
    clear hv3 hn3 he3 hm3 HC q0 q2 q4 hcq hlg lW
    go_wp2
    go_ret
    exact ⟨rfl, t3, HW.out⟩
  by_cases c4 : (d.z : Int) - off < n
  · clear hout
    have HC := Lib.hid (fun (W : World) (hb : Below w.heap.size w W) => vw_read_out (h.vw.up hb) hCx (off := off) (n := n) (by rw [Bool.eq_false_iff]; intro e; have := inB_iff.1 e; omega) hpm)
    clear h
    go_enter Try.func21, Try.ntmps21
    go_wp2
    refine wp_region_up_tail 13 (by kernel_rfl) (by kernel_rfl) (by kernel_rfl) ?_
    simp only [List.take_succ_cons, List.take_zero, List.drop_succ_cons, List.drop_zero]
    repeat (go_big_quiet_step (fail))
    refine wpQuiet_nil ?_
    rintro _ ⟨g, rfl⟩
    go_wp2_with fail
    refine (HC.out _ g.h).mono ?_
    rintro e w3 ⟨t3, rfl, hv3, hn3, he3, hm3⟩
    have HW := Lib.hid ((HWA.out.up' g.h).nx hv3 hn3 hm3)
    have q2' := HW.out.wl.c2
    clear hv3 hn3 he3 hm3 HC q0 q2 q4 hcq hlg lW
    go_wp2
    go_ret
    exact ⟨rfl, t3, HW.out⟩
  exact absurd ⟨by omega, by omega, by omega, by omega⟩ hout
set_option maxRecDepth 100000 in
set_option maxHeartbeats 4000000 in
theorem wread_in (h : WA w0 w Wb S d t R (k + 1) vi vb xs) (hR : R) {q : Nat} {x : Pe} (hq : xs[q]? = some x) (off n : Nat) (hin : off + n ≤ d.z) :
    Calls Try.prog 21 #[.pointer (some ⟨Wb, 0, none⟩), .int .i64 (q : Nat), .int .i64 (off : Nat), .int .i64 (n : Nat)] w fun e w' => e = .returned (.bool true) ∧ ∃ t', WA w0 w' Wb S d t' R k vi vb xs := by
  have HWA := Lib.hid h
  obtain ⟨hz1, hz2⟩ := h.wl.z16
  have hxs : x ∈ xs := List.mem_of_getElem? hq
  have hCx := CnX_at h.up hxs
  have hxl := (h.ids hxs).2.2.2
  have hql : q < xs.length := (List.getElem?_eq_some_iff.1 hq).1
  obtain ⟨A, c, rfl, _, hI⟩ := h.wl.formI
  obtain ⟨gi, rfl, _, hlg, hci⟩ := hI (by omega)
  have hcq := hci q x hq
  obtain ⟨A2, c2, rfl, _, hB⟩ := h.wl.formB
  have q0 := h.wl.c0
  have q4 := h.wl.c4
  have lW := h.wl.ltW
  have HQ := Lib.hid hq
  have HXS := Lib.hid hxs
  have hqI : (q : Int) < (xs.length : Int) := by omega
  have HC := Lib.hid (fun (W : World) (hb : Below w.heap.size w W) => vw_read (h.vw.up hb) hR hCx hin)
  have HXL := Lib.hid hxl
  clear h hI hci hq hxs hB hxl hCx
  go_enter Try.func21, Try.ntmps21
  go_wp2
  refine wp_region_up_tail 13 (by kernel_rfl) (by kernel_rfl) (by kernel_rfl) ?_
  simp only [List.take_succ_cons, List.take_zero, List.drop_succ_cons, List.drop_zero]
  repeat (go_big_quiet_step (fail))
  refine wpQuiet_nil ?_
  rintro _ ⟨g, rfl⟩
  go_wp2_with fail
  refine (HC.out _ g.h).mono ?_
  rintro e w3 ⟨t3, A3, c3, rfl, hv3, hn3, he3, hm3, hs3, _⟩
  have HW := Lib.hid ((HWA.out.up' g.h).nx hv3 hn3 hm3)
  have HS3 := Lib.hid (sl_sby' hs3)
  have q2' := HW.out.wl.c2
  have o1 : ¬ (d.z : Int) < (off : Int) := by omega
  have o2 : ¬ (d.z : Int) - (off : Int) < (n : Int) := by omega
  clear hv3 hn3 he3 hm3 hs3 HC q0 q4 hcq hlg lW HWA
  go_upto_region 4 with (fail)
  obtain ⟨_, _, e9, _, hB⟩ := HW.out.wl.formB
  cases e9
  obtain ⟨gb, rfl, _, hlb, hcb⟩ := hB (by omega)
  have hcx := hcb q x HQ.out
  unfold Pe.v at hcx
  rw [HXL.out] at hcx
  have hby := HW.out.wl.by_ x HXS.out
  have hcap := hby.cap
  have q5 := HW.out.wl.c5
  have lW := HW.out.wl.ltW
  have HBY := Lib.hid hby
  have hse := strB_eq (secP x.b off n) (secP x.b off n)
  rw [decide_eq_true rfl] at hse
  clear hcb hB hby o1 o2 q2'
  have cv1 : ∀ g : Up w3, (convert 22 9 (.slice A3 n c3)).run Try.prog g.world = .ok (.string (strB (secP x.b off n))) g.world := fun g => (HS3.out.up g.h).str c3
  by_cases hcz : off = x.c
  · obtain rfl : n = 0 := by omega
    have cv2 : ∀ g : Up w3, (convert 22 9 (.slice (some ⟨x.B, 0, none⟩) 0 0)).run Try.prog g.world = .ok (.string (strB (secP x.b off 0))) g.world := fun g => (SBy.nil g.world (some ⟨x.B, 0, none⟩)).str 0
    refine wp_region_up (by kernel_rfl) (by kernel_rfl) ?_
    repeat (go_big_quiet_step (fail))
    refine wpQuiet_nil ?_
    rintro _ ⟨g, rfl⟩
    have HF := Lib.hid (HW.out.up' g.h)
    clear cv1 cv2 hcx q5
    go_wp2
    go_ret
    exact ⟨rfl, t3, HF.out⟩
  · have cv2 : ∀ g : Up w3, (convert 22 9 (.slice (some ⟨x.B, off, none⟩) n (x.c - off))).run Try.prog g.world = .ok (.string (strB (secP x.b off n))) g.world := fun g => ((HBY.out.part hin hz1).up g.h).str _
    refine wp_region_up (by kernel_rfl) (by kernel_rfl) ?_
    repeat (go_big_quiet_step (fail))
    refine wpQuiet_nil ?_
    rintro _ ⟨g, rfl⟩
    have HF := Lib.hid (HW.out.up' g.h)
    clear cv1 cv2 hcx q5
    go_wp2
    go_ret
    exact ⟨rfl, t3, HF.out⟩
theorem wread_any (h : WA w0 w Wb S d t R (k + 1) vi vb xs) (hR : R) {q : Nat} {x : Pe} (hq : xs[q]? = some x) (off n : Int) (hn : -9223372036854775808 ≤ n ∧ n ≤ 9223372036854775807) (ho : -9223372036854775808 ≤ off ∧ off ≤ 9223372036854775807) :
    Calls Try.prog 21 #[.pointer (some ⟨Wb, 0, none⟩), .int .i64 (q : Nat), .int .i64 off, .int .i64 n] w fun e w' => e = .returned (.bool true) ∧ ∃ t', WA w0 w' Wb S d t' R k vi vb xs := by
  by_cases hin : 0 ≤ off ∧ 0 ≤ n ∧ off ≤ (d.z : Int) ∧ n ≤ (d.z : Int) - off
  · obtain ⟨off, rfl⟩ := Int.eq_ofNat_of_zero_le hin.1
    obtain ⟨n, rfl⟩ := Int.eq_ofNat_of_zero_le hin.2.1
    exact wread_in h hR hq off n (by omega)
  · exact wread_out h hq off n hin hn ho
end
end Go.Proofs.Ytmipngefpedfpaa
