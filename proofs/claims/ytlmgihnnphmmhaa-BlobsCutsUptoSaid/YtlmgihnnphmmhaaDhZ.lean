/- disk: Flush, On. -/
import Derived.Test.YtlmgihnnphmmhaaDgZ
namespace Go.Proofs.Ytlmgihnnphmmhaa
open Go.RowKit Go.Maps
set_option linter.unusedVariables false
set_option linter.unusedSimpArgs false

section
variable {B : Nat} {w : World} {D : Nat} {d : DkS} {O : Nat → Prop}
set_option maxRecDepth 100000 in
set_option maxHeartbeats 1000000 in
theorem dkFlush_any (h : DkAt B w D d O) (hof : d.off = false) : Calls Try.prog 68 #[.pointer (some ⟨D, 0, none⟩)] w fun e w' => e = .returned (.int .i64 0) ∧ DkAt B w' D (d.settle (fun _ => true)) O ∧ Off O w w' := by
  have HS := Lib.hid (dkSettleAll_any h)
  obtain ⟨Kb, Mb, pv, P, kv, Da, hi, hO, hO2⟩ := h
  have c0 := hi.c0
  have HO := Lib.hid (dkOff_any c0)
  rw [hof] at HO
  clear hi hO hO2 hof c0
  go_enter Try.func68, Try.ntmps68
  go_wp2_with fail
  refine HO.out.mono ?_
  rintro _ w1 ⟨rfl, rfl⟩
  go_wp2_with fail
  refine HS.out.mono ?_
  rintro _ w2 ⟨rfl, hd, ho⟩
  have HF : Hid (DkAt B w2 D (d.settle fun _ => true) O ∧ Off O w1 w2) := ⟨hd, ho⟩
  clear hd ho HS HO
  go_wp2
  go_ret
  exact ⟨rfl, HF.out⟩
/-- The power is on or off. -/
theorem DkAt.setOff (h : DkAt B w D d O) (x : Bool) : DkAt B (w.setCell ⟨D, 0, none⟩ (.bool x)) D ⟨d.S, d.z, d.kept, d.pend, x⟩ O ∧ Off O w (w.setCell ⟨D, 0, none⟩ (.bool x)) := by
  obtain ⟨Kb, Mb, pv, P, kv, Da, hi, h2, h3⟩ := h
  have ho : Off (· = D) w (w.setCell ⟨D, 0, none⟩ (.bool x)) := (Off.refl (· = D) w).setCell (p := ⟨D, 0, none⟩) rfl _
  obtain ⟨l1, l2, l3, l4⟩ := hi.lens
  obtain ⟨n1, n2, n3, n4⟩ := hi.ne
  have cn : ∀ i, i ≠ 0 → (w.setCell ⟨D, 0, none⟩ (.bool x)).cell? ⟨D, i, none⟩ = w.cell? ⟨D, i, none⟩ := fun i hij => World.cell?_setCell_other _ _ _ _ (fun e => hij (by injection e with e1 e2; exact e2.symm))
  have hda : ∀ g, Da g → ¬ g = D := fun g hg e => hi.da g hg (.inl e)
  refine ⟨⟨Kb, Mb, pv, P, kv, Da, ⟨World.cell?_setCell_same _ _ _ hi.c0, (cn 1 (by omega)).trans hi.c1, hi.c2.imp fun v hv => (cn 2 (by omega)).trans hv, (cn 3 (by omega)).trans hi.c3, (cn 4 (by omega)).trans hi.c4, (cn 5 (by omega)).trans hi.c5, (cn 6 (by omega)).trans hi.c6, hi.c7.imp fun i hj => (cn 7 (by omega)).trans hj, hi.c8.imp fun i hj => (cn 8 (by omega)).trans hj,
    fun j => (World.frozen?_setCell _ _ _ _).trans (hi.zf j), ?_, hi.pd, fun p hp => ⟨(hi.pb p hp).1, (hi.pb p hp).2.off ho hda⟩, fun k hk => (ho.cell (p := ⟨Kb, k, none⟩) l2 (fun e => n1 e.symm)).trans (hi.kc k hk), fun j => (ho.frozen (p := ⟨Kb, j, none⟩) l2 (fun e => n1 e.symm)).trans (hi.kf j), hi.kn, fun k L hk hL => (hi.kb k L hk hL).off ho hda, hi.mp.imp fun c hc => hc.off ho (fun e => n2 e.symm), hi.ne, hi.da, hi.bz⟩, h2, fun g hg => ⟨(h3 g hg).1, Nat.lt_of_lt_of_le (h3 g hg).2 ho.size⟩⟩, ho.mono fun g e => h2 g (.inl (.inl e))⟩
  refine ⟨hi.row.1, ?_⟩
  rcases hi.row.2 with hn | ⟨g, cap, cur, rfl, hb, hgg, rest⟩
  · exact .inl hn
  · refine .inr ⟨g, cap, cur, rfl, hb, ?_, rest⟩
    rw [ho.block g (Array.getElem?_eq_some_iff.1 hgg).1 (n4 g rfl).1]
    exact hgg
set_option maxRecDepth 100000 in
set_option maxHeartbeats 1000000 in
theorem dkOn_any (h : DkAt B w D d O) : Calls Try.prog 34 #[.pointer (some ⟨D, 0, none⟩)] w fun e w' => e = .returned (.tuple #[]) ∧ DkAt B w' D ⟨d.S, d.z, d.kept, d.pend, false⟩ O ∧ Off O w w' := by
  have HF := Lib.hid (h.setOff false)
  obtain ⟨Kb, Mb, pv, P, kv, Da, hi, hO, hO2⟩ := h
  have c0 := hi.c0
  have z0 := hi.zf 0
  clear hi hO hO2
  go_enter Try.func34, Try.ntmps34
  go_wp2
  go_end0
  exact ⟨rfl, HF.out⟩
end
end Go.Proofs.Ytlmgihnnphmmhaa
