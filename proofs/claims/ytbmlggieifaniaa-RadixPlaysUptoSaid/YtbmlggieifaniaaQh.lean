/- radix's laws: a tree, its root's box, a map beside. -/
import Derived.Test.YtbmlggieifaniaaQg
import Derived.Test.YtbmlggieifaniaaQd
namespace Go.Proofs.Ytbmlggieifaniaa
open Go.RowKit Go.Maps
set_option linter.unusedVariables false
set_option linter.unusedSimpArgs false

/-- A tree, a root in its box, a map of what it tells. -/
structure MtAt (W V : World) (S T g Mb : Nat) (O : Nat → Prop) (st : ShS × Int) (r : Int × Int) (m : Mp) (ps : Ps) : Prop where
  rt : RtAt W V S T g O st r
  mp : GMap V Mb m ps.length
  lst : Lst m ps
  oM : Out O T Mb
  geM : W.heap.size ≤ Mb
  neM : Mb ≠ g
section
variable {W w w' V : World} {S T g g' Mb : Nat} {O O' : Nat → Prop} {st st' : ShS × Int} {r r' : Int × Int} {n N : Nat} {G : Rdr → Int × Int → Prop} {e : Ending} {m : Mp} {ps : Ps}
theorem MtAt.up (h : MtAt W w S T g Mb O st r m ps) (hb : Below w.heap.size w w') : MtAt W w' S T g Mb O st r m ps := ⟨h.rt.up hb, h.mp.off (S := fun _ => False) (Off.of_below hb) id, h.lst, h.oM, h.geM, h.neM⟩
theorem RtAt.offW {P : Nat → Prop} (h : RtAt W w S T g O st r) (ho : Off P w w') (hP : ∀ k, P k → Out O T k ∧ W.heap.size ≤ k ∧ k ≠ g) : RtAt W w' S T g O st r :=
  ⟨h.l.offW ho (fun k e => ⟨(hP k e).1, (hP k e).2.1⟩), h.box.off ho (fun e => (hP g e).2.2 rfl), h.out, h.ge⟩
theorem SetOk.mt (h : MtAt W w S T g Mb O st r m ps) {w1 : World} (hb : Below w.heap.size w w1) (k : SetOk W w1 w' S T O O' st st' n N G r' e) : MtAt W w' S T g Mb O' st' r m ps :=
  ⟨k.rt h.rt hb, (h.up hb).mp.off k.off (fun e => e.elim h.oM.1 h.oM.2), h.lst, out_next h.oM k.hO (Nat.lt_of_lt_of_le (MapIs.lt h.mp) hb.size), h.geM, h.neM⟩
theorem MtAt.boxA (h : MtAt W w' S T g Mb O' st' r m ps) (r' : Int × Int) (t : TypeId) : MtAt W (w'.alloc (.cells #[.int .i64 r'.1, .int .i64 r'.2] t)) S T g Mb O' st' r m ps ∧ RtAt W (w'.alloc (.cells #[.int .i64 r'.1, .int .i64 r'.2] t)) S T w'.heap.size O' st' r' ∧ g ≠ w'.heap.size ∧ Mb ≠ w'.heap.size :=
  ⟨h.up ((Below.refl _ _).alloc (Nat.le_refl _) _), (h.rt.boxA r' t).2, by have := h.rt.box.lt; omega, by have := MapIs.lt h.mp; omega⟩
theorem MtAt.boxB (h : MtAt W w' S T g Mb O' st' r m ps) {r0 : Int × Int} (h2 : BoxA w' g' r0) (o2 : Out O' T g') (hg : W.heap.size ≤ g') (hne : g' ≠ g) (hneM : g' ≠ Mb) (r' : Int × Int) :
    MtAt W ((w'.setCell ⟨g', 0, none⟩ (.int .i64 r'.1)).setCell ⟨g', 1, none⟩ (.int .i64 r'.2)) S T g Mb O' st' r m ps ∧ RtAt W ((w'.setCell ⟨g', 0, none⟩ (.int .i64 r'.1)).setCell ⟨g', 1, none⟩ (.int .i64 r'.2)) S T g' O' st' r' ∧ g ≠ g' ∧ Mb ≠ g' :=
  ⟨⟨(h.rt.boxB h2 o2 hg hne r').1, h.mp.off (h2.set r').2 (fun e => hneM e.symm), h.lst, h.oM, h.geM, h.neM⟩, (h.rt.boxB h2 o2 hg hne r').2, hne.symm, hneM.symm⟩
/-- The root's box takes another root. -/
theorem MtAt.root (h : MtAt W w S T g Mb O st r m ps) (r' : Int × Int) : MtAt W ((w.setCell ⟨g, 0, none⟩ (.int .i64 r'.1)).setCell ⟨g, 1, none⟩ (.int .i64 r'.2)) S T g Mb O st r' m ps := by
  obtain ⟨e1, e2⟩ := h.rt.box.set r'
  exact ⟨⟨h.rt.l.offW e2 (fun k e => by cases e; exact ⟨h.rt.out, h.rt.ge⟩), e1, h.rt.out, h.rt.ge⟩, h.mp.off e2 h.neM, h.lst, h.oM, h.geM, h.neM⟩
/-- The map takes a pair. -/
theorem MtAt.put (h : MtAt W w S T g Mb O st r m ps) {key : Nat} (hk : key < 16777216) (L : Bytes) :
    ∃ w', (Instr.mapUpdate 30 (.map (some Mb)) (.int .i64 (key : Nat)) (.string (strB L))).run Try.prog w = .ok () w' ∧ MtAt W w' S T g Mb O st r (upd m key (some L)) (insP key L ps) ∧ Off (· = Mb) w w' := by
  obtain ⟨w', h1, h2, h3⟩ := h.mp.put hk L
  refine ⟨w', h1, ⟨h.rt.offW h3 (fun k e => by rw [e]; exact ⟨h.oM, h.geM, h.neM⟩), ?_, h.lst.set key L, h.oM, h.geM, h.neM⟩, h3⟩
  rw [h.lst.set_len key L]
  exact h2
/-- Same has been asked. -/
theorem SmOk.mt (h : MtAt W w S T g Mb O st r m ps) {s' : ShS} (k : SmOk W w S T O st Mb m ps.length w' s') : MtAt W w' S T g Mb O (s', st.2) r m ps :=
  ⟨⟨k.l, h.rt.box.off k.off (fun e => e.elim h.rt.out.1 (fun e => h.neM e.symm)), h.rt.out, h.rt.ge⟩, k.mp, h.lst, h.oM, h.geM, h.neM⟩
theorem SmOk.rt {g2 : Nat} {r2 : Int × Int} (h : RtAt W w S T g2 O st r2) (hne : Mb ≠ g2) {s' : ShS} {c : Nat} (k : SmOk W w S T O st Mb m c w' s') : RtAt W w' S T g2 O (s', st.2) r2 :=
  ⟨k.l, h.box.off k.off (fun e => e.elim h.out.1 (fun e => hne e.symm)), h.out, h.ge⟩
theorem MtAt.same (h : MtAt W w S T g Mb O st r m ps) (hr : shK.Rdy st.1 0) {r2 : Int × Int} (hm : TellsR (shRd st.1.L) r2 m) (hl : ps.length ≤ 149796) :
    Calls Try.prog 13 #[.pointer (some ⟨T, 0, none⟩), .agg #[.int .i64 r2.1, .int .i64 r2.2], .map (some Mb)] w (SmPost W w S T O st Mb m ps.length) :=
  same_any h.rt.l hr hm h.lst hl h.mp h.oM h.geM
/-- The shelf is told how many more it may take. -/
theorem ShL.setFull (h : ShL W w S T O st) (x : Int) (hx : x < 9223372036854775808) : ShL W (w.setCell ⟨S, 3, none⟩ (.int .i64 x)) S T O ({ st.1 with full := x }, st.2) ∧ Off (· = S) w (w.setCell ⟨S, 3, none⟩ (.int .i64 x)) ∧ O S := by
  have ho : Off (· = S) w (w.setCell ⟨S, 3, none⟩ (.int .i64 x)) := (Off.refl (· = S) w).setCell (p := ⟨S, 3, none⟩) rfl _
  obtain ⟨rv, vs, ov, hi, h2, h3, h4, h5, h6⟩ := (show ShAt S w O st.1 from h.tr.at_)
  have hST : ¬ T = S := fun e => h.tr.ne (by rw [e]; exact h2)
  have hlt := h.tr.lt
  refine ⟨⟨⟨⟨rv, vs, ov, hi.setFull x hx, h2, h3, h4, h5, fun k hk => by have := h6 k hk; simpa using this⟩, h.tr.ne, (ho.cell (p := ⟨T, 0, none⟩) hlt hST).trans h.tr.sk, (ho.cell (p := ⟨T, 1, none⟩) hlt hST).trans h.tr.pu, (ho.frozen (p := ⟨T, 1, none⟩) hlt hST).trans h.tr.fr⟩, h.hO, h.hT, h.inn, h.bel.trans (ho.below (fun k e => by rw [e]; exact h.hO S h2) h.bel.size)⟩, ho, h2⟩
theorem ShL.shelf (h : ShL W w S T O st) : w.cell? ⟨S, 3, none⟩ = some (.int .i64 st.1.full) ∧ w.frozen? ⟨S, 3, none⟩ = false := by
  obtain ⟨rv, vs, ov, hi, _⟩ := (show ShAt S w O st.1 from h.tr.at_)
  exact ⟨hi.c3, hi.fr 3⟩
theorem MtAt.setFull (h : MtAt W w S T g Mb O st r m ps) (x : Int) (hx : x < 9223372036854775808) : MtAt W (w.setCell ⟨S, 3, none⟩ (.int .i64 x)) S T g Mb O ({ st.1 with full := x }, st.2) r m ps := by
  obtain ⟨h1, ho, hS⟩ := h.rt.l.setFull x hx
  exact ⟨⟨h1, h.rt.box.off ho (fun e => h.rt.out.1 (by rw [e]; exact hS)), h.rt.out, h.rt.ge⟩, h.mp.off ho (fun e => h.oM.1 (by rw [e]; exact hS)), h.lst, h.oM, h.geM, h.neM⟩
theorem RtAt.setFull (h : RtAt W w S T g O st r) (x : Int) (hx : x < 9223372036854775808) : RtAt W (w.setCell ⟨S, 3, none⟩ (.int .i64 x)) S T g O ({ st.1 with full := x }, st.2) r := by
  obtain ⟨h1, ho, hS⟩ := h.l.setFull x hx
  exact ⟨h1, h.box.off ho (fun e => h.out.1 (by rw [e]; exact hS)), h.out, h.ge⟩
theorem rdy_full {s : ShS} {k : Nat} (h : shK.Rdy s k) {x : Int} (hx : x < 9223372036854775808) : shK.Rdy { s with full := x } k := ⟨h.1, h.2.1, h.2.2.1, hx⟩
/-- A Set over a sink that may be full has answered. -/
theorem rt_mt {G : Rdr → Int × Int → Prop} {er : Int} (h : MtAt W w S T g Mb O st r m ps) (hf : 0 ≤ st.1.full) (k : RtPost shP (shM S) w T O st 6 G (fun s' => shK.Rdy s' n) e w' O' st' r' er) :
    e = .returned (.tuple #[.agg #[.int .i64 r'.1, .int .i64 r'.2], .int .i64 er]) ∧ MtAt W w' S T g Mb O' st' r m ps ∧ shK.Rdy st'.1 n ∧ SubR (shRd st.1.L) (shRd st'.1.L) ∧ ((er = 0 ∧ G (shRd st'.1.L) r') ∨ (er = 7 ∧ st.1.full < 6)) := by
  have key : ∃ j, Aft shP j st st' := by
    rcases k.r with ⟨_, j, _, ha, _⟩ | ⟨_, j, _, ha, _⟩
    · exact ⟨j, ha⟩
    · exact ⟨j, ha⟩
  obtain ⟨j, ha⟩ := key
  have hO2 : ∀ k', O' k' → W.heap.size ≤ k' := fun k' hk => (k.hO k' hk).elim (h.rt.l.hO k') (fun e => Nat.le_trans h.rt.l.bel.size e)
  have hl : ShL W w' S T O' st' := ⟨k.tr, hO2, h.rt.l.hT, ha.inn, h.rt.l.bel.trans (k.off.below (fun b hb => hb.elim (h.rt.l.hO b) (fun e => e ▸ h.rt.l.hT)) h.rt.l.bel.size)⟩
  refine ⟨k.e, ⟨⟨hl, h.rt.box.off k.off (fun e => e.elim h.rt.out.1 h.rt.out.2), out_next h.rt.out k.hO h.rt.box.lt, h.rt.ge⟩, h.mp.off k.off (fun e => e.elim h.oM.1 h.oM.2), h.lst, out_next h.oM k.hO (MapIs.lt h.mp), h.geM, h.neM⟩, k.z, ha.sub, ?_⟩
  rcases k.r with ⟨h0, j, hj, ha, hg⟩ | ⟨h0, j, hj, ha, hz⟩
  · exact .inl ⟨h0, hg⟩
  · refine .inr ⟨h0, ?_⟩
    have h1 := ha.room
    rw [if_neg (show ¬ shP.room st.1 < 0 by show ¬ st.1.full < 0; omega)] at h1
    have h2 : st.1.full - (j : Int) = 0 := h1.symm.trans hz
    omega
end
end Go.Proofs.Ytbmlggieifaniaa
