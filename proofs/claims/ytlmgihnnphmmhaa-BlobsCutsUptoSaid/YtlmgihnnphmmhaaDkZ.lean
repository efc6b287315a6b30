/- disk: Cut. UNDER WAY. -/
import Derived.Test.YtlmgihnnphmmhaaDjZ
namespace Go.Proofs.Ytlmgihnnphmmhaa
open Go.RowKit Go.Maps
set_option linter.unusedVariables false
set_option linter.unusedSimpArgs false

section
variable {B : Nat} {w : World} {D : Nat} {d : DkS} {O : Nat → Prop}
/-- It goes at no write. -/
theorem DkAt.arm0 (h : DkAt B w D d O) : DkAt B (w.setCell ⟨D, 1, none⟩ (.int .i64 0)) D d O ∧ Off O w (w.setCell ⟨D, 1, none⟩ (.int .i64 0)) := by
  obtain ⟨Kb, Mb, pv, P, kv, Da, hi, h2, h3⟩ := h
  have ho : Off (· = D) w (w.setCell ⟨D, 1, none⟩ (.int .i64 0)) := (Off.refl (· = D) w).setCell (p := ⟨D, 1, none⟩) rfl _
  obtain ⟨l1, l2, l3, l4⟩ := hi.lens
  obtain ⟨n1, n2, n3, n4⟩ := hi.ne
  have cn : ∀ i, i ≠ 1 → (w.setCell ⟨D, 1, none⟩ (.int .i64 0)).cell? ⟨D, i, none⟩ = w.cell? ⟨D, i, none⟩ := fun i hij => World.cell?_setCell_other _ _ _ _ (fun e => hij (by injection e with e1 e2; exact e2.symm))
  have hda : ∀ g, Da g → ¬ g = D := fun g hg e => hi.da g hg (.inl e)
  refine ⟨⟨Kb, Mb, pv, P, kv, Da, ⟨(cn 0 (by omega)).trans hi.c0, World.cell?_setCell_same _ _ _ hi.c1, hi.c2.imp fun v hv => (cn 2 (by omega)).trans hv, (cn 3 (by omega)).trans hi.c3, (cn 4 (by omega)).trans hi.c4, (cn 5 (by omega)).trans hi.c5, (cn 6 (by omega)).trans hi.c6, hi.c7.imp fun i hj => (cn 7 (by omega)).trans hj, hi.c8.imp fun i hj => (cn 8 (by omega)).trans hj,
    fun j => (World.frozen?_setCell _ _ _ _).trans (hi.zf j), ?_, hi.pd, fun p hp => ⟨(hi.pb p hp).1, (hi.pb p hp).2.off ho hda⟩, fun k hk => (ho.cell (p := ⟨Kb, k, none⟩) l2 (fun e => n1 e.symm)).trans (hi.kc k hk), fun j => (ho.frozen (p := ⟨Kb, j, none⟩) l2 (fun e => n1 e.symm)).trans (hi.kf j), hi.kn, fun k L hk hL => (hi.kb k L hk hL).off ho hda, hi.mp.imp fun c hc => hc.off ho (fun e => n2 e.symm), hi.ne, hi.da, hi.bz⟩, h2, fun g hg => ⟨(h3 g hg).1, Nat.lt_of_lt_of_le (h3 g hg).2 ho.size⟩⟩, ho.mono fun g e => h2 g (.inl (.inl e))⟩
  refine ⟨hi.row.1, ?_⟩
  rcases hi.row.2 with hn | ⟨g, cap, cur, rfl, hb, hgg, rest⟩
  · exact .inl hn
  · refine .inr ⟨g, cap, cur, rfl, hb, ?_, rest⟩
    rw [ho.block g (Array.getElem?_eq_some_iff.1 hgg).1 (n4 g rfl).1]
    exact hgg
set_option maxRecDepth 100000 in
set_option maxHeartbeats 1000000 in
theorem dkCut_any (h : DkAt B w D d O) {A : Option Addr} {n c : Nat} {F : List Bool} (hF : SBl w A n F) (hA : 0 < n → ∀ g o, A = some ⟨g, o, none⟩ → ¬ O g) :
    Calls Try.prog 33 #[.pointer (some ⟨D, 0, none⟩), .slice A n c] w fun e w' => e = .returned (.tuple #[]) ∧ DkAt B w' D (DkS.settle (fun i => F.getD i false) ⟨d.S, d.z, d.kept, d.pend, true⟩) O ∧ Off O w w' := by
  obtain ⟨hd1, ho1⟩ := h.setOff true
  obtain ⟨hd2, ho2⟩ := hd1.arm0
  have hal : Below ((w.setCell ⟨D, 0, none⟩ (.bool true)).setCell ⟨D, 1, none⟩ (.int .i64 0)).heap.size ((w.setCell ⟨D, 0, none⟩ (.bool true)).setCell ⟨D, 1, none⟩ (.int .i64 0)) (((w.setCell ⟨D, 0, none⟩ (.bool true)).setCell ⟨D, 1, none⟩ (.int .i64 0)).alloc (.cells #[.slice A n c] 57)) := (Below.refl _ _).alloc (Nat.le_refl _) _
  have hsz : ((w.setCell ⟨D, 0, none⟩ (.bool true)).setCell ⟨D, 1, none⟩ (.int .i64 0)).heap.size = w.heap.size := by simp
  have HO3 : Hid (Off O w (((w.setCell ⟨D, 0, none⟩ (.bool true)).setCell ⟨D, 1, none⟩ (.int .i64 0)).alloc (.cells #[.slice A n c] 57))) := (ho1.trans ho2).trans ((Off.of_below (S := fun _ => False) hal).mono fun _ e => e.elim)
  have hlt := h.lts
  have HS := Lib.hid (dkSettleCut_any (hd2.up hal) (bx := w.heap.size) (A := A) (n := n) (c := c) (F := F) (by rw [← hsz, cell_of_row _ _ _ _ _ _ (heap_alloc_new _ _)]; rfl) (hF.off HO3.out hA) (fun e => by have := (hlt _ e).2; omega) hA)
  clear hd1 ho1 hd2 ho2 hal hsz hlt
  obtain ⟨Kb, Mb, pv, P, kv, Da, hi, hO, hO2⟩ := h
  have c0 := hi.c0
  have c1 := hi.c1
  have z0 := hi.zf 0
  have z1 := hi.zf 1
  obtain ⟨l1, l2, l3, l4⟩ := hi.lens
  clear hi hO hO2
  go_enter Try.func33, Try.ntmps33
  go_upto_region 1 with (fail)
  go_wp2_with fail
  refine HS.out.mono ?_
  rintro _ w5 ⟨rfl, hd, ho⟩
  have HF : Hid (DkAt B w5 D (DkS.settle (fun i => F.getD i false) ⟨d.S, d.z, d.kept, d.pend, true⟩) O ∧ Off O w w5) := ⟨hd, HO3.out.trans ho⟩
  clear hd ho HS
  go_wp2
  go_end0
  exact ⟨rfl, HF.out⟩
end
end Go.Proofs.Ytlmgihnnphmmhaa
