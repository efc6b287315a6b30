/- Boxes beside the world of almanaclaw14: an address in a box of its own, an act. -/
import Derived.Test.YtmipngefpedfpaaXlZ
namespace Go.Proofs.Ytmipngefpedfpaa
open Go.RowKit Go.Maps
set_option linter.unusedVariables false
set_option linter.unusedSimpArgs false

/-- A block beside the pager's and the law's. -/
structure Bes (w0 : World) (d : PD) (t : PSt ShS) (Wb : Nat) (vi vb : Value) (xs : List Pe) (g : Nat) : Prop where
  no : ¬ Own d t g
  nl : ¬ LB Wb vi vb xs g
  ge : w0.heap.size ≤ g
def Bx (w0 w : World) (d : PD) (t : PSt ShS) (Wb : Nat) (vi vb : Value) (xs : List Pe) (g : Nat) (a : Int × Int) : Prop := BoxA w g a ∧ Bes w0 d t Wb vi vb xs g
def Ax (w0 w : World) (d : PD) (t : PSt ShS) (Wb : Nat) (vi vb : Value) (xs : List Pe) (g : Nat) (a : Ac) : Prop := AcB w g a ∧ Bes w0 d t Wb vi vb xs g
section
variable {w0 w w' w1 w2 : World} {Wb S : Nat} {d : PD} {t t' t1 t2 : PSt ShS} {R : Prop} {k k1 : Nat} {vi vb : Value} {xs : List Pe} {g g' : Nat} {a a' : Int × Int} {ac : Ac}
theorem WA.bes (h : WA w0 w Wb S d t R k vi vb xs) (hg : w.heap.size ≤ g) : Bes w0 d t Wb vi vb xs g :=
  ⟨fun e => by have := h.vw.lt e; omega, fun e => by have := h.wl.lt e; omega, Nat.le_trans h.vw.bel.size hg⟩
theorem Bx.lt (h : Bx w0 w d t Wb vi vb xs g a) : g < w.heap.size := h.1.lt
theorem Ax.lt (h : Ax w0 w d t Wb vi vb xs g ac) : g < w.heap.size := h.1.lt
theorem Bes.nx (h : Bes w0 d t Wb vi vb xs g) (hg : g < w.heap.size) (hn : Nx S w w' d t t') : Bes w0 d t' Wb vi vb xs g := ⟨(hn.keep hg h.no).2, h.nl, h.ge⟩
theorem Bx.nx (h : Bx w0 w d t Wb vi vb xs g a) (hn : Nx S w w' d t t') : Bx w0 w' d t' Wb vi vb xs g a := ⟨h.1.off hn.off h.2.no, h.2.nx h.lt hn⟩
theorem Ax.nx (h : Ax w0 w d t Wb vi vb xs g ac) (hn : Nx S w w' d t t') : Ax w0 w' d t' Wb vi vb xs g ac := ⟨h.1.off hn.off h.2.no, h.2.nx h.lt hn⟩
theorem Bx.up (h : Bx w0 w d t Wb vi vb xs g a) (hb : Below w.heap.size w w') : Bx w0 w' d t Wb vi vb xs g a := ⟨h.1.off (S := fun _ => False) (Off.of_below hb) (fun e => e), h.2⟩
theorem Ax.up (h : Ax w0 w d t Wb vi vb xs g ac) (hb : Below w.heap.size w w') : Ax w0 w' d t Wb vi vb xs g ac := ⟨h.1.up hb, h.2⟩
/-- Another box has been stored to. -/
theorem WA.beside {P : Nat → Prop} (h : WA w0 w Wb S d t R k vi vb xs) (ho : Off P w w') (hP : ∀ b, P b → Bes w0 d t Wb vi vb xs b) : WA w0 w' Wb S d t R k vi vb xs :=
  ⟨h.vw.offL ho (fun b hb => (hP b hb).no) (fun b hb => (hP b hb).ge), h.wl.off ho (fun b hb e => (hP b e).nl hb) (fun b hb => (h.wl.out b hb).1), h.up, h.cm⟩
theorem WA.boxA (h : WA w0 w Wb S d t R k vi vb xs) (hA : Ax w0 w d t Wb vi vb xs g ac) (a : Int × Int) (T : TypeId) :
    WA w0 (w.alloc (.cells #[.int .i64 a.1, .int .i64 a.2] T)) Wb S d t R k vi vb xs ∧ Ax w0 (w.alloc (.cells #[.int .i64 a.1, .int .i64 a.2] T)) d t Wb vi vb xs g ac ∧ Bx w0 (w.alloc (.cells #[.int .i64 a.1, .int .i64 a.2] T)) d t Wb vi vb xs w.heap.size a :=
  have hb : Below w.heap.size w (w.alloc (.cells #[.int .i64 a.1, .int .i64 a.2] T)) := (Below.refl _ _).alloc (Nat.le_refl _) _
  ⟨h.up' hb, hA.up hb, BoxA.new w T a, h.bes (Nat.le_refl _)⟩
theorem WA.boxB (h : WA w0 w Wb S d t R k vi vb xs) (hA : Ax w0 w d t Wb vi vb xs g ac) (hB : Bx w0 w d t Wb vi vb xs g' a) (hne : g ≠ g') (a' : Int × Int) :
    WA w0 ((w.setCell ⟨g', 0, none⟩ (.int .i64 a'.1)).setCell ⟨g', 1, none⟩ (.int .i64 a'.2)) Wb S d t R k vi vb xs ∧ Ax w0 ((w.setCell ⟨g', 0, none⟩ (.int .i64 a'.1)).setCell ⟨g', 1, none⟩ (.int .i64 a'.2)) d t Wb vi vb xs g ac ∧ Bx w0 ((w.setCell ⟨g', 0, none⟩ (.int .i64 a'.1)).setCell ⟨g', 1, none⟩ (.int .i64 a'.2)) d t Wb vi vb xs g' a' := by
  obtain ⟨e1, e2⟩ := hB.1.set a'
  exact ⟨h.beside e2 (fun b e => by cases e; exact hB.2), ⟨hA.1.off e2 hne, hA.2⟩, e1, hB.2⟩
/-- The new box lies there before the call. -/
theorem WA.box0 (h : WA w0 w Wb S d t R k vi vb xs) (T : TypeId) (hw : Below (w.alloc (.cells #[.int .i64 0, .int .i64 0] T)).drew.heap.size (w.alloc (.cells #[.int .i64 0, .int .i64 0] T)).drew w') : Bx w0 w' d t Wb vi vb xs w.heap.size (0, 0) :=
  ⟨((BoxA.new w T (0, 0)).off (S := fun _ => False) ((Off.refl _ _).drew) (fun e => e)).off (S := fun _ => False) (Off.of_below hw) (fun e => e), h.bes (Nat.le_refl _)⟩
end
theorem bel_al (w : World) (c : Array Value) (T : TypeId) : Below w.heap.size w (w.alloc (.cells c T)).drew := ((Below.refl _ _).alloc (Nat.le_refl _) _).drew
theorem bel2 {V W w3 : World} (h : Below V.heap.size V W) (g : Below W.heap.size W w3) : Below V.heap.size V w3 := h.trans (g.mono h.size)
theorem kept3 {V w : World} {p0 p1 p2 o0 o1 o2 : Nat} {v0 v1 v2 : Value} (h : Below V.heap.size V w) (l0 : p0 < V.heap.size) (l1 : p1 < V.heap.size) (l2 : p2 < V.heap.size) (h0 : V.cell? ⟨p0, o0, none⟩ = some v0) (h1 : V.cell? ⟨p1, o1, none⟩ = some v1) (h2 : V.cell? ⟨p2, o2, none⟩ = some v2) : w.cell? ⟨p0, o0, none⟩ = some v0 ∧ w.cell? ⟨p1, o1, none⟩ = some v1 ∧ w.cell? ⟨p2, o2, none⟩ = some v2 :=
  ⟨(h.cell (p := ⟨p0, o0, none⟩) l0).trans h0, (h.cell (p := ⟨p1, o1, none⟩) l1).trans h1, (h.cell (p := ⟨p2, o2, none⟩) l2).trans h2⟩
def Kp3 (w : World) (p0 p1 p2 o0 o1 o2 : Nat) (v0 v1 v2 : Value) : Prop := w.cell? ⟨p0, o0, none⟩ = some v0 ∧ w.cell? ⟨p1, o1, none⟩ = some v1 ∧ w.cell? ⟨p2, o2, none⟩ = some v2
theorem Kp3.alloc {w : World} {p0 p1 p2 o0 o1 o2 : Nat} {v0 v1 v2 : Value} (h : Kp3 w p0 p1 p2 o0 o1 o2 v0 v1 v2) (c : Array Value) (T : TypeId) : Kp3 (w.alloc (.cells c T)) p0 p1 p2 o0 o1 o2 v0 v1 v2 :=
  kept3 ((Below.refl _ _).alloc (Nat.le_refl _) _) (lt_of_cell h.1) (lt_of_cell h.2.1) (lt_of_cell h.2.2) h.1 h.2.1 h.2.2
theorem Kp3.set {w : World} {g p0 p1 p2 o0 o1 o2 : Nat} {v0 v1 v2 : Value} (h : Kp3 w p0 p1 p2 o0 o1 o2 v0 v1 v2) (l0 : p0 ≠ g) (l1 : p1 ≠ g) (l2 : p2 ≠ g) (a b : Value) : Kp3 ((w.setCell ⟨g, 0, none⟩ a).setCell ⟨g, 1, none⟩ b) p0 p1 p2 o0 o1 o2 v0 v1 v2 := by
  have hne : ∀ p o o', p ≠ g → (⟨g, o', none⟩ : Addr) ≠ ⟨p, o, none⟩ := fun p o o' hp e => by injection e with e; omega
  refine ⟨?_, ?_, ?_⟩
  · rw [World.cell?_setCell_other _ _ _ _ (hne _ _ _ l0), World.cell?_setCell_other _ _ _ _ (hne _ _ _ l0)]; exact h.1
  · rw [World.cell?_setCell_other _ _ _ _ (hne _ _ _ l1), World.cell?_setCell_other _ _ _ _ (hne _ _ _ l1)]; exact h.2.1
  · rw [World.cell?_setCell_other _ _ _ _ (hne _ _ _ l2), World.cell?_setCell_other _ _ _ _ (hne _ _ _ l2)]; exact h.2.2
theorem bel_dr (w : World) : Below w.heap.size w w.drew := (Below.refl _ _).drew
section
variable {w0 w w' w1 w2 : World} {Wb S : Nat} {d : PD} {t t' t1 t2 : PSt ShS} {R : Prop} {k k1 : Nat} {vi vb : Value} {xs : List Pe} {g g' gi ci q : Nat} {a a' : Int × Int} {ac : Ac} {x : Pe}
/-- What the loads of a page's number read. -/
theorem WA.kp3 (h : WA w0 w Wb S d t R k vi vb xs) (hvi : vi = .slice (some ⟨gi, 0, none⟩) xs.length ci) (hq : xs[q]? = some x) :
    Kp3 w Wb Wb gi 0 4 q (.pointer (some ⟨d.Q, 0, none⟩)) (.slice (some ⟨gi, 0, none⟩) xs.length ci) (.int .i64 x.id) := by
  refine ⟨h.wl.c0, hvi ▸ h.wl.c4, ?_⟩
  obtain ⟨Ai, ci', e, _, hI⟩ := h.wl.formI
  rw [hvi] at e
  injection e with e1 e2 e3
  obtain ⟨gi', e4, _, _, hc⟩ := hI (by have := (List.getElem?_eq_some_iff.1 hq).1; omega)
  rw [e4] at e1
  injection e1 with e1
  injection e1 with e1
  rw [e1]
  exact hc q x hq
theorem WA.lgi (h : WA w0 w Wb S d t R k vi vb xs) (hvi : vi = .slice (some ⟨gi, 0, none⟩) xs.length ci) : gi < w.heap.size := h.wl.lt (.inr (.inl (by rw [hvi]; rfl)))
/-- The new box lies there before a call that writes. -/
theorem WA.box1 (h : WA w0 w Wb S d t R k vi vb xs) (T : TypeId) (hn : Nx S (w.alloc (.cells #[.int .i64 0, .int .i64 0] T)).drew w' d t t') : Bx w0 w' d t' Wb vi vb xs w.heap.size (0, 0) :=
  Bx.nx (w := (w.alloc (.cells #[.int .i64 0, .int .i64 0] T)).drew) ⟨(BoxA.new w T (0, 0)).off (S := fun _ => False) ((Off.refl _ _).drew) (fun e => e), h.bes (Nat.le_refl _)⟩ hn
theorem Bx.boxA (hB : Bx w0 w d t Wb vi vb xs g' a) (c : Array Value) (T : TypeId) : Bx w0 (w.alloc (.cells c T)) d t Wb vi vb xs g' a := hB.up ((Below.refl _ _).alloc (Nat.le_refl _) _)
theorem Bx.boxB (hB : Bx w0 w d t Wb vi vb xs g' a) (hA : Bx w0 w d t Wb vi vb xs g a') (hne : g ≠ g') (b : Int × Int) : Bx w0 ((w.setCell ⟨g', 0, none⟩ (.int .i64 b.1)).setCell ⟨g', 1, none⟩ (.int .i64 b.2)) d t Wb vi vb xs g a' :=
  ⟨hA.1.off (hB.1.set b).2 hne, hA.2⟩
/-- Behind Where: its answer in a new box, or in one that lay there. -/
theorem whA1 {A4 : Option Addr} {n4 : Nat} {L : Bytes} {g15 : Nat} {w3 : World} {T : TypeId} (h : WA w0 w Wb S d t R k vi vb xs) (hA : Ax w0 w d t Wb vi vb xs g ac) (hB : Bx w0 w d t Wb vi vb xs g15 a) (hS : SBy w A4 n4 L) (hb : Below w.drew.heap.size w.drew w3) (c : Int × Int) :
    g15 ≠ w3.heap.size ∧ WA w0 (w3.alloc (.cells #[.int .i64 c.1, .int .i64 c.2] T)) Wb S d t R k vi vb xs ∧ Ax w0 (w3.alloc (.cells #[.int .i64 c.1, .int .i64 c.2] T)) d t Wb vi vb xs g ac ∧ Bx w0 (w3.alloc (.cells #[.int .i64 c.1, .int .i64 c.2] T)) d t Wb vi vb xs g15 a ∧ Bx w0 (w3.alloc (.cells #[.int .i64 c.1, .int .i64 c.2] T)) d t Wb vi vb xs w3.heap.size c ∧ SBy (w3.alloc (.cells #[.int .i64 c.1, .int .i64 c.2] T)) A4 n4 L := by
  have hb2 := bel2 (bel_dr w) hb
  obtain ⟨e1, e2, e3⟩ := (h.up' hb2).boxA (hA.up hb2) c T
  exact ⟨by have := hB.lt; have := hb2.size; omega, e1, e2, (hB.up hb2).boxA _ _, e3, (hS.up hb2).up ((Below.refl _ _).alloc (Nat.le_refl _) _)⟩
theorem SBy.low {w : World} {A : Option Addr} {n : Nat} {L : Bytes} (h : SBy w A n L) (hn : 0 < n) : ∃ b o, A = some ⟨b, o, none⟩ ∧ b < w.heap.size := by
  obtain ⟨b, o, e, hb, _⟩ := h.2 hn
  exact ⟨b, o, e, hb⟩
theorem whB1 {A4 : Option Addr} {n4 : Nat} {L : Bytes} {g15 : Nat} {w3 : World} {T : TypeId} (h : WA w0 w Wb S d t R k vi vb xs) (hA : Ax w0 w d t Wb vi vb xs g ac) (hB : Bx w0 w d t Wb vi vb xs g15 a) (hS : SBy w A4 n4 L) (hb : Below (w.alloc (.cells #[.int .i64 0, .int .i64 0] T)).drew.heap.size (w.alloc (.cells #[.int .i64 0, .int .i64 0] T)).drew w3) (c : Int × Int) :
    g15 ≠ w.heap.size ∧ WA w0 ((w3.setCell ⟨w.heap.size, 0, none⟩ (.int .i64 c.1)).setCell ⟨w.heap.size, 1, none⟩ (.int .i64 c.2)) Wb S d t R k vi vb xs ∧ Ax w0 ((w3.setCell ⟨w.heap.size, 0, none⟩ (.int .i64 c.1)).setCell ⟨w.heap.size, 1, none⟩ (.int .i64 c.2)) d t Wb vi vb xs g ac ∧ Bx w0 ((w3.setCell ⟨w.heap.size, 0, none⟩ (.int .i64 c.1)).setCell ⟨w.heap.size, 1, none⟩ (.int .i64 c.2)) d t Wb vi vb xs g15 a ∧ Bx w0 ((w3.setCell ⟨w.heap.size, 0, none⟩ (.int .i64 c.1)).setCell ⟨w.heap.size, 1, none⟩ (.int .i64 c.2)) d t Wb vi vb xs w.heap.size c ∧ SBy ((w3.setCell ⟨w.heap.size, 0, none⟩ (.int .i64 c.1)).setCell ⟨w.heap.size, 1, none⟩ (.int .i64 c.2)) A4 n4 L := by
  have hb2 := bel2 (bel_al w _ _) hb
  have hbx := h.box0 T hb
  have hlg := hA.lt
  have hlb := hB.lt
  obtain ⟨e1, e2, e3⟩ := (h.up' hb2).boxB (hA.up hb2) hbx (by omega) c
  refine ⟨by omega, e1, e2, hbx.boxB (hB.up hb2) (by omega) c, e3, ?_⟩
  rcases Nat.eq_zero_or_pos n4 with h0 | h0
  · exact ⟨hS.1, fun hp => absurd hp (by omega)⟩
  · refine (hS.up hb2).off (hbx.1.set c).2 (fun k o e e2 => ?_)
    subst e
    obtain ⟨b, o', e3, hl⟩ := hS.low h0
    cases e3
    omega
theorem WA.kp3b {gb c5 : Nat} (h : WA w0 w Wb S d t R k vi vb xs) (hvb : vb = .slice (some ⟨gb, 0, none⟩) xs.length c5) (hq : xs[q]? = some x) :
    Kp3 w Wb Wb gb 1 5 q (.pointer (some ⟨S, 0, none⟩)) (.slice (some ⟨gb, 0, none⟩) xs.length c5) (.slice (some ⟨x.B, 0, none⟩) d.z x.c) := by
  refine ⟨h.wl.c1, hvb ▸ h.wl.c5, ?_⟩
  obtain ⟨Ab, cb', e, _, hB⟩ := h.wl.formB
  rw [hvb] at e
  injection e with e1 e2 e3
  obtain ⟨gb', e4, _, _, hc⟩ := hB (by have := (List.getElem?_eq_some_iff.1 hq).1; omega)
  rw [e4] at e1
  injection e1 with e1
  injection e1 with e1
  rw [e1, hc q x hq]
  unfold Pe.v
  rw [(h.wl.by_ x (List.mem_of_getElem? hq)).len]
theorem WA.lgb {gb c5 : Nat} (h : WA w0 w Wb S d t R k vi vb xs) (hvb : vb = .slice (some ⟨gb, 0, none⟩) xs.length c5) : gb < w.heap.size := h.wl.lt (.inr (.inr (.inl (by rw [hvb]; rfl))))
theorem whA_put {o : Option Pg} (h : whA o = (a, true)) : ∃ y, o = some y ∧ y.put = true := by
  unfold whA at h
  cases o with
  | none => simp at h
  | some y =>
    refine ⟨y, rfl, ?_⟩
    simp only at h
    split at h
    · assumption
    · simp at h
theorem Bx.bes3 (h : Bx w0 w d t Wb vi vb xs g a) : Wb ≠ g ∧ ∀ b, vi.ownBlock = some b → b ≠ g :=
  ⟨fun e => h.2.nl (.inl e.symm), fun b hb e => h.2.nl (.inr (.inl (by rw [hb, e])))⟩
theorem kp5 {p0 p1 p2 o0 o1 o2 : Nat} {v0 v1 v2 : Value} (h : Kp3 w p0 p1 p2 o0 o1 o2 v0 v1 v2) (hB : Bx w0 w d t Wb vi vb xs g a) : w.cell? ⟨p0, o0, none⟩ = some v0 ∧ w.cell? ⟨p1, o1, none⟩ = some v1 ∧ w.cell? ⟨p2, o2, none⟩ = some v2 ∧ w.cell? ⟨g, 0, none⟩ = some (.int .i64 a.1) ∧ w.cell? ⟨g, 1, none⟩ = some (.int .i64 a.2) :=
  ⟨h.1, h.2.1, h.2.2, hB.1.1, hB.1.2.1⟩
theorem whC1 (h : WA w0 w Wb S d t R k vi vb xs) (hB : Bx w0 w d t Wb vi vb xs g a) (hB2 : Bx w0 w d t Wb vi vb xs g' a') (hne : g ≠ g') (c : Int × Int) :
    WA w0 ((w.setCell ⟨g, 0, none⟩ (.int .i64 c.1)).setCell ⟨g, 1, none⟩ (.int .i64 c.2)) Wb S d t R k vi vb xs ∧ Bx w0 ((w.setCell ⟨g, 0, none⟩ (.int .i64 c.1)).setCell ⟨g, 1, none⟩ (.int .i64 c.2)) d t Wb vi vb xs g c ∧ Bx w0 ((w.setCell ⟨g, 0, none⟩ (.int .i64 c.1)).setCell ⟨g, 1, none⟩ (.int .i64 c.2)) d t Wb vi vb xs g' a' := by
  obtain ⟨e1, e2⟩ := hB.1.set c
  exact ⟨h.beside e2 (fun b e => by cases e; exact hB.2), ⟨e1, hB.2⟩, hB2.1.off e2 (Ne.symm hne), hB2.2⟩
end
end Go.Proofs.Ytmipngefpedfpaa
