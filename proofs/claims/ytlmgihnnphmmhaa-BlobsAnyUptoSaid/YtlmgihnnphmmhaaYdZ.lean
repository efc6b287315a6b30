/- disk: Burst. -/
import Derived.Test.YtlmgihnnphmmhaaYcZ
import Derived.Test.YtlmgihnnphmmhaaDcZ
import Derived.Laws.OwnMore
namespace Go.Proofs.Ytlmgihnnphmmhaa
open Go.RowKit Go.Maps
set_option linter.unusedVariables false
set_option linter.unusedSimpArgs false

theorem pcells_set : ∀ (P : List (Nat × Bytes × Value)) (j : Nat) (p : Nat × Bytes × Value) (L : Bytes) (v : Value), P[j]? = some p → pcells (P.set j (p.1, L, v)) = (pcells P).set (j * 2 + 1) v := by
  intro P
  induction P with
  | nil => intro j p L v h; simp at h
  | cons q P ih =>
    intro j p L v h
    cases j with
    | zero => simp at h; subst h; simp [pcells]
    | succ j =>
      have := ih j p L v (by simpa using h)
      simp only [pcells, List.set_cons_succ, List.flatMap_cons] at this ⊢
      rw [this, show (j + 1) * 2 + 1 = (j * 2 + 1) + 2 by omega]
      simp
theorem lastR_keys : ∀ {l m : List (Nat × Bytes)} (k : Nat), l.map Prod.fst = m.map Prod.fst → lastR l k = lastR m k := by
  intro l
  induction l with
  | nil => intro m k h; cases m with
    | nil => rfl
    | cons q m => cases h
  | cons p l ih =>
    intro m k h
    cases m with
    | nil => cases h
    | cons q m =>
      simp only [List.map_cons, List.cons.injEq] at h
      have hl : l.length = m.length := by have := congrArg List.length h.2; simpa using this
      unfold lastR
      rw [h.1, hl, ih k h.2]
theorem lastOf_keys {l m : List (Nat × Bytes)} (k : Nat) (h : l.map Prod.fst = m.map Prod.fst) : lastOf l k = lastOf m k :=
  lastR_keys k (by rw [List.map_reverse, List.map_reverse, h])
theorem keys_set {l : List (Nat × Bytes)} {j : Nat} {p : Nat × Bytes} (L : Bytes) (h : l[j]? = some p) : (l.set j (p.1, L)).map Prod.fst = l.map Prod.fst := by
  rw [List.map_set]
  apply List.ext_getElem?
  intro i
  rw [List.getElem?_set]
  by_cases hij : j = i
  · subst hij
    rw [if_pos rfl, List.getElem?_map, h]
    have := (List.getElem?_eq_some_iff.1 h).1
    simp [this]
  · rw [if_neg hij]
section
variable {B : Nat} {w w' : World} {D Kb Mb : Nat} {pv : Value} {P : List (Nat × Bytes × Value)} {kv : Nat → Value} {Da : Nat → Prop} {d : DkS} {O S : Nat → Prop}
theorem DkIn.wide (h : DkIn B w D Kb Mb pv P kv Da d) {Da' : Nat → Prop} (hsub : ∀ g, Da g → Da' g) (hd : ∀ g, Da' g → ¬ MutD D Kb Mb pv g) : DkIn B w D Kb Mb pv P kv Da' d :=
  { h with pb := fun p hp => ⟨(h.pb p hp).1, (h.pb p hp).2.mono hsub⟩, kb := fun k L hk hL => (h.kb k L hk hL).mono hsub, da := hd }
/-- A pending write's bytes are set. -/
theorem DkIn.setP (h : DkIn B w D Kb Mb pv P kv Da d) {pg j n cap : Nat} {p : Nat × Bytes × Value} (hpv : pv = .slice (some ⟨pg, 0, none⟩) n cap) (hp : P[j]? = some p) {v : Value} {L : Bytes} (hv : ByD Da w d.z v L) :
    DkIn B (w.setCell ⟨pg, j * 2 + 1, none⟩ v) D Kb Mb pv (P.set j (p.1, L, v)) kv Da ⟨d.S, d.z, d.kept, d.pend.set j (p.1, L), d.off⟩ ∧ Off (· = pg) w (w.setCell ⟨pg, j * 2 + 1, none⟩ v) := by
  obtain ⟨l1, l2, l3, l4⟩ := h.lens
  obtain ⟨n1, n2, n3, n4⟩ := h.ne
  have hob : pv.ownBlock = some pg := by rw [hpv]; rfl
  obtain ⟨m1, m2, m3⟩ := n4 pg hob
  have ho : Off (· = pg) w (w.setCell ⟨pg, j * 2 + 1, none⟩ v) := (Off.refl (· = pg) w).setCell (p := ⟨pg, j * 2 + 1, none⟩) rfl _
  have cD : ∀ i, (w.setCell ⟨pg, j * 2 + 1, none⟩ v).cell? ⟨D, i, none⟩ = w.cell? ⟨D, i, none⟩ := fun i => ho.cell (p := ⟨D, i, none⟩) l1 (fun e => m1 e.symm)
  have hda : ∀ g, Da g → ¬ g = pg := fun g hg e => h.da g hg (.inr (.inr (.inr (by rw [hob, e]))))
  have hpend : d.pend[j]? = some (p.1, p.2.1) := by rw [h.pd, List.getElem?_map, hp]; rfl
  have hlast : lastG ⟨d.S, d.z, d.kept, d.pend.set j (p.1, L), d.off⟩ = lastG d := by
    funext k
    unfold lastG
    simp only
    split
    · rw [lastOf_keys _ (keys_set (p := (p.1, p.2.1)) L hpend)]
    · rfl
  refine ⟨⟨(cD 0).trans h.c0, (cD 1).trans h.c1, h.c2.imp fun v hv => (cD 2).trans hv, (cD 3).trans h.c3, (cD 4).trans h.c4, (cD 5).trans h.c5, (cD 6).trans h.c6, h.c7.imp fun i hi => (cD 7).trans hi, h.c8.imp fun i hi => (cD 8).trans hi,
    fun i => (ho.frozen (p := ⟨D, i, none⟩) l1 (fun e => m1 e.symm)).trans (h.zf i), ?_, ?_, fun q hq => ?_, fun k hk => (ho.cell (p := ⟨Kb, k, none⟩) l2 (fun e => m2 e.symm)).trans (h.kc k hk), fun i => (ho.frozen (p := ⟨Kb, i, none⟩) l2 (fun e => m2 e.symm)).trans (h.kf i), h.kn, fun k L' hk hL => (h.kb k L' hk hL).off ho hda, ?_, h.ne, h.da, h.bz⟩, ho⟩
  · have hr := h.row
    rw [hpv] at hr ⊢
    have hn : n = P.length := by
      rcases hr.2 with ⟨e, _⟩ | ⟨g, c, cur, e, _⟩
      · cases e
      · injection e
    subst hn
    rw [List.length_set, pcells_set _ _ _ _ _ hp]
    exact (hr.stored (j * 2 + 1) v).1
  · show d.pend.set j (p.1, L) = _
    rw [h.pd, List.map_set]
  · rcases List.mem_or_eq_of_mem_set hq with hq | rfl
    · exact ⟨(h.pb q hq).1, (h.pb q hq).2.off ho hda⟩
    · exact ⟨(h.pb p (List.mem_of_getElem? hp)).1, hv.off ho hda⟩
  · rw [hlast]
    exact h.mp.imp fun c hc => hc.off ho (fun e => m3 e.symm)
end
/-- The first j pending writes are burst. -/
structure PendTo (P Q : List (Nat × Bytes)) (s : Nat) (f : Bytes → Bytes) (j : Nat) : Prop where
  len : Q.length = P.length
  lo : ∀ i p, i < j → P[i]? = some p → Q[i]? = some (if p.1 = s then (p.1, f p.2) else p)
  hi : ∀ i, j ≤ i → Q[i]? = P[i]?
theorem PendTo.start (P : List (Nat × Bytes)) (s : Nat) (f : Bytes → Bytes) : PendTo P P s f 0 := ⟨rfl, fun i p h => by omega, fun _ _ => rfl⟩
theorem PendTo.skip {P Q : List (Nat × Bytes)} {s : Nat} {f : Bytes → Bytes} {j : Nat} {p : Nat × Bytes} (h : PendTo P Q s f j) (hp : P[j]? = some p) (hs : p.1 ≠ s) : PendTo P Q s f (j + 1) := by
  refine ⟨h.len, fun i q hi hq => ?_, fun i hi => h.hi i (by omega)⟩
  by_cases hij : i = j
  · subst hij
    rw [hp] at hq
    cases hq
    rw [h.hi i (Nat.le_refl _), hp, if_neg hs]
  · exact h.lo i q (by omega) hq
theorem PendTo.step {P Q : List (Nat × Bytes)} {s : Nat} {f : Bytes → Bytes} {j : Nat} {p : Nat × Bytes} (h : PendTo P Q s f j) (hp : P[j]? = some p) (hs : p.1 = s) : PendTo P (Q.set j (p.1, f p.2)) s f (j + 1) := by
  have hj : j < Q.length := by rw [h.len]; exact (List.getElem?_eq_some_iff.1 hp).1
  refine ⟨by rw [List.length_set]; exact h.len, fun i q hi hq => ?_, fun i hi => ?_⟩
  · rw [List.getElem?_set]
    by_cases hij : j = i
    · subst hij
      rw [hp] at hq
      cases hq
      rw [if_pos rfl, if_pos hj, if_pos hs]
    · rw [if_neg hij]
      exact h.lo i q (by omega) hq
  · rw [List.getElem?_set, if_neg (by omega)]
    exact h.hi i (by omega)
theorem PendTo.burst {d : DkS} {Q : List (Nat × Bytes)} {s : Nat} {bit : Int} {pat : Nat} (h : PendTo d.pend Q s (fun L => burstB L bit pat) d.pend.length) (o : Bool) :
    BurstOf d ⟨d.S, d.z, setKept d.kept s (burstB (d.keptB s) bit pat), Q, o⟩ s bit pat := by
  have hkeys : Q.map Prod.fst = d.pend.map Prod.fst := by
    apply List.ext_getElem?
    intro i
    rw [List.getElem?_map, List.getElem?_map]
    by_cases hi : i < d.pend.length
    · have hp : d.pend[i]? = some d.pend[i] := List.getElem?_eq_getElem hi
      rw [h.lo i _ hi hp, hp]
      simp only [Option.map_some]
      split <;> rfl
    · rw [h.hi i (by omega)]
  have hread : ∀ k, (⟨d.S, d.z, setKept d.kept s (burstB (d.keptB s) bit pat), Q, o⟩ : DkS).read k = if k = s then burstB (d.read k) bit pat else d.read k := fun k => by
    unfold DkS.read
    simp only
    rw [lastOf_keys k hkeys]
    cases hl : lastOf d.pend k with
    | none =>
      simp only
      unfold DkS.keptB setKept
      simp only
      by_cases hk : k = s
      · subst hk
        rw [if_pos rfl, if_pos rfl]
        rfl
      · rw [if_neg hk, if_neg hk]
    | some i =>
      simp only
      obtain ⟨b, hb⟩ := lastOf_spec hl
      have hi := (List.getElem?_eq_some_iff.1 hb).1
      have h1 := h.lo i _ hi hb
      rw [List.getD_eq_getElem?_getD, List.getD_eq_getElem?_getD, h1, hb]
      simp only [Option.getD_some]
      split <;> rfl
  refine ⟨rfl, ?_, fun k hk => ?_⟩
  · rw [hread, if_pos rfl]
  · rw [hread, if_neg hk]
theorem BurstOf.neg (d : DkS) (s : Nat) {bit : Int} (h : bit < 0) (pat : Nat) : BurstOf d d s bit pat := ⟨rfl, by unfold burstB; rw [if_neg (by omega)], fun _ _ => rfl⟩
end Go.Proofs.Ytlmgihnnphmmhaa
