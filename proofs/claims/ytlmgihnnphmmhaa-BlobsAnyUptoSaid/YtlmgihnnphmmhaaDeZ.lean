/- disk: what settle keeps; the law of clear on a map. -/
import Derived.Test.YtlmgihnnphmmhaaMC
namespace Go.Proofs.Ytlmgihnnphmmhaa
open Go.RowKit Go.Maps Go.MapKept
open Go.ChangeMaps (setBlock modify_eq_set)
set_option linter.unusedVariables false
set_option linter.unusedSimpArgs false

theorem MapIs.clr {P : Program} {k t e : TypeId} {w : World} {b c : Nat} {f : Value → Option Value} (h : MapIs P k w b f c) (ht : P.underlying t = some (.map k e)) (ty : TypeId) :
    ∃ w', (Builtin.clear_ #[t] ty #[.map (some b)]).run P w = .ok (.tuple #[]) w' ∧ MapIs P k w' b (fun _ => none) 0 ∧ Off (· = b) w w' := by
  have hlt := h.lt
  obtain ⟨es, clock, hb, hst, hc, hk, h1, h2⟩ := h
  refine ⟨setBlock w b (.map #[] clock), ?_, ⟨#[], clock, by simp [setBlock, hlt], stamped_empty clock, rfl, by simp, by simp, by simp⟩, off_setBlock _ _ _ _ rfl⟩
  simp [Builtin.clear_, run_underlying ht, MapKept.run_getObj_map hb, MapKept.run_setObj_map _ hb, Result.andThen, setBlock]
def setKept (k : Nat → Option Bytes) (s : Nat) (L : Bytes) : Nat → Option Bytes := fun j => if j = s then some L else k j
/-- What is kept, when of the first j pending writes those are kept of which keep tells true. -/
def setl (keep : Nat → Bool) (pend : List (Nat × Bytes)) (k : Nat → Option Bytes) : Nat → Nat → Option Bytes
  | 0 => k
  | j + 1 => match pend[j]? with
    | some p => if keep j then setKept (setl keep pend k j) p.1 p.2 else setl keep pend k j
    | none => setl keep pend k j
theorem setl_step {keep : Nat → Bool} {pend : List (Nat × Bytes)} {k : Nat → Option Bytes} {j : Nat} {p : Nat × Bytes} (h : pend[j]? = some p) (hk : keep j = true) : setl keep pend k (j + 1) = setKept (setl keep pend k j) p.1 p.2 := by simp [setl, h, hk]
theorem setl_skip {keep : Nat → Bool} {pend : List (Nat × Bytes)} {k : Nat → Option Bytes} {j : Nat} {p : Nat × Bytes} (h : pend[j]? = some p) (hk : keep j = false) : setl keep pend k (j + 1) = setl keep pend k j := by simp [setl, h, hk]
def DkS.settle (keep : Nat → Bool) (d : DkS) : DkS := ⟨d.S, d.z, setl keep d.pend d.kept d.pend.length, [], d.off⟩
theorem lastG_nil {d : DkS} (h : d.pend = []) : lastG d = fun _ => none := by
  funext j
  unfold lastG
  rw [h]
  split
  · rw [lastOf_nil]; rfl
  · rfl
section
variable {B : Nat} {w w' : World} {D Kb Mb : Nat} {pv : Value} {P : List (Nat × Bytes × Value)} {kv : Nat → Value} {Da : Nat → Prop} {d : DkS} {O S : Nat → Prop}
/-- A kept sector is set. -/
theorem DkIn.setK (h : DkIn B w D Kb Mb pv P kv Da d) {s : Nat} {v : Value} {L : Bytes} (hs : s < d.S) (hv : ByD Da w d.z v L) :
    DkIn B (w.setCell ⟨Kb, s, none⟩ v) D Kb Mb pv P (fun k => if k = s then v else kv k) Da ⟨d.S, d.z, setKept d.kept s L, d.pend, d.off⟩ ∧ Off (· = Kb) w (w.setCell ⟨Kb, s, none⟩ v) := by
  obtain ⟨l1, l2, l3, l4⟩ := h.lens
  obtain ⟨n1, n2, n3, n4⟩ := h.ne
  have ho : Off (· = Kb) w (w.setCell ⟨Kb, s, none⟩ v) := (Off.refl (· = Kb) w).setCell (p := ⟨Kb, s, none⟩) rfl _
  have cD : ∀ j, (w.setCell ⟨Kb, s, none⟩ v).cell? ⟨D, j, none⟩ = w.cell? ⟨D, j, none⟩ := fun j => ho.cell (p := ⟨D, j, none⟩) l1 n1
  have hda : ∀ g, Da g → ¬ g = Kb := fun g hg e => h.da g hg (.inr (.inl e))
  refine ⟨⟨(cD 0).trans h.c0, (cD 1).trans h.c1, h.c2.imp fun v hv => (cD 2).trans hv, (cD 3).trans h.c3, (cD 4).trans h.c4, (cD 5).trans h.c5, (cD 6).trans h.c6, h.c7.imp fun i hi => (cD 7).trans hi, h.c8.imp fun i hi => (cD 8).trans hi,
    fun j => (ho.frozen (p := ⟨D, j, none⟩) l1 n1).trans (h.zf j), ?_, h.pd, fun p hp => ⟨(h.pb p hp).1, (h.pb p hp).2.off ho hda⟩, fun k hk => ?_, fun j => ?_, fun k hk hn => ?_, fun k L' hk hL => ?_, h.mp.imp fun c hc => hc.off ho (fun e => n3 e.symm), h.ne, h.da, h.bz⟩, ho⟩
  · refine ⟨h.row.1, ?_⟩
    rcases h.row.2 with hn | ⟨g, cap, cur, rfl, hb, hgg, rest⟩
    · exact .inl hn
    · refine .inr ⟨g, cap, cur, rfl, hb, ?_, rest⟩
      rw [ho.block g (Array.getElem?_eq_some_iff.1 hgg).1 (n4 g rfl).2.1]
      exact hgg
  · by_cases hks : k = s
    · subst hks
      simp only [if_true]
      exact World.cell?_setCell_same _ _ _ (h.kc k hk)
    · simp only [hks, if_false]
      rw [World.cell?_setCell_other _ _ _ _ (fun e => hks (by injection e with e1 e2; exact e2.symm))]
      exact h.kc k hk
  · rw [World.frozen?_setCell]
    exact h.kf j
  · simp only [setKept] at hn
    by_cases hks : k = s
    · rw [if_pos hks] at hn; cases hn
    · rw [if_neg hks] at hn
      simp only [hks, if_false]
      exact h.kn k hk hn
  · simp only [setKept] at hL
    by_cases hks : k = s
    · rw [if_pos hks] at hL
      cases hL
      simp only [hks, if_true]
      exact hv.off ho hda
    · rw [if_neg hks] at hL
      simp only [hks, if_false]
      exact (h.kb k L' hk hL).off ho hda
/-- All is settled. -/
theorem DkIn.settled {k' : Nat → Option Bytes} (h : DkIn B w D Kb Mb pv P kv Da ⟨d.S, d.z, k', d.pend, d.off⟩) {w2 : World} (hm : MapIs Try.prog 109 w2 Mb (fun _ => none) 0) (ho : Off (· = Mb) (w.setCell ⟨D, 5, none⟩ (.slice none 0 0)) w2) :
    DkIn B w2 D Kb Mb (.slice none 0 0) [] kv Da ⟨d.S, d.z, k', [], d.off⟩ ∧ Off (fun g => g = D ∨ g = Mb) w w2 := by
  obtain ⟨l1, l2, l3, l4⟩ := h.lens
  obtain ⟨n1, n2, n3, n4⟩ := h.ne
  have h1 : Off (· = D) w (w.setCell ⟨D, 5, none⟩ (.slice none 0 0)) := (Off.refl (· = D) w).setCell (p := ⟨D, 5, none⟩) rfl _
  have hoo : Off (fun g => g = D ∨ g = Mb) w w2 := (h1.mono fun _ e => .inl e).trans (ho.mono fun _ e => .inr e)
  have l1' : D < (w.setCell ⟨D, 5, none⟩ (.slice none 0 0)).heap.size := Nat.lt_of_lt_of_le l1 h1.size
  have cD : ∀ j, j ≠ 5 → w2.cell? ⟨D, j, none⟩ = w.cell? ⟨D, j, none⟩ := fun j hj => (ho.cell (p := ⟨D, j, none⟩) l1' n2).trans (World.cell?_setCell_other _ _ _ _ (fun e => hj (by injection e with e1 e2; exact e2.symm)))
  have hKb : ¬ (Kb = D ∨ Kb = Mb) := fun e => e.elim (fun e => n1 e.symm) n3
  have hda : ∀ g, Da g → ¬ (g = D ∨ g = Mb) := fun g hg e => h.da g hg (e.elim .inl fun e => .inr (.inr (.inl e)))
  refine ⟨⟨(cD 0 (by omega)).trans h.c0, (cD 1 (by omega)).trans h.c1, h.c2.imp fun v hv => (cD 2 (by omega)).trans hv, (cD 3 (by omega)).trans h.c3, (cD 4 (by omega)).trans h.c4, (ho.cell (p := ⟨D, 5, none⟩) l1' n2).trans (World.cell?_setCell_same _ _ _ h.c5), (cD 6 (by omega)).trans h.c6, h.c7.imp fun i hi => (cD 7 (by omega)).trans hi, h.c8.imp fun i hi => (cD 8 (by omega)).trans hi,
    fun j => (ho.frozen (p := ⟨D, j, none⟩) l1' n2).trans ((World.frozen?_setCell _ _ _ _).trans (h.zf j)), World.ownsRow_nil _ _ _ _, rfl, (fun p hp => by cases hp), fun k hk => (hoo.cell (p := ⟨Kb, k, none⟩) l2 hKb).trans (h.kc k hk), fun j => (hoo.frozen (p := ⟨Kb, j, none⟩) l2 hKb).trans (h.kf j), h.kn, fun k L hk hL => (h.kb k L hk hL).off hoo hda, ⟨0, ?_⟩, ⟨n1, n2, n3, fun g e => by cases e⟩, fun g hg e => ?_, h.bz⟩, hoo⟩
  · rw [lastG_nil rfl]
    have e : pF (fun _ => none) = fun _ => none := by
      funext v
      unfold pF
      cases placeOf v <;> rfl
    rw [e]
    exact hm
  · rcases e with e | e | e | e
    · exact h.da g hg (.inl e)
    · exact h.da g hg (.inr (.inl e))
    · exact h.da g hg (.inr (.inr (.inl e)))
    · cases e
end
end Go.Proofs.Ytlmgihnnphmmhaa
