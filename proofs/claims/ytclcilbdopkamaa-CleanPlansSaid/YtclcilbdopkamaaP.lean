/- The plain law of plans: no program in sight. -/
import Derived.Test.YtclcilbdopkamaaB
namespace Go.Proofs.Ytclcilbdopkamaa
open Go.RowKit
set_option linter.unusedVariables false
set_option linter.unusedSimpArgs false

theorem right_bd {s u z : Int} (h : rightB s u z = true) : 0 ≤ s ∧ 1 ≤ z ∧ z ≤ 1048576 ∧ 0 ≤ u ∧ u ≤ z := by
  simp [rightB] at h; omega

def gSet (G : Nat → Bool) (k : Nat) : Nat → Bool := fun i => if i = k then true else G i

/-- What is gone behind t victims. -/
def seqG (L : Nat → Ld) (n : Nat) : Nat → Nat → Bool
  | 0 => fun _ => false
  | t + 1 => gSet (seqG L n t) (bestTo L (seqG L n t) n).toNat
/-- The t-th victim. -/
def pick (L : Nat → Ld) (n t : Nat) : Int := bestTo L (seqG L n t) n
def Ld.free (l : Ld) : Int := l.z - l.u
/-- What the first t victims free. -/
def frd (L : Nat → Ld) (n : Nat) : Nat → Int
  | 0 => 0
  | t + 1 => frd L n t + (L (pick L n t).toNat).free

/-- The plan's length is T. -/
structure PlanLen (L : Nat → Ld) (n : Nat) (need : Int) (T : Nat) : Prop where
  go : ∀ i, i < T → frd L n i < need ∧ 0 ≤ pick L n i
  stop : need ≤ frd L n T ∨ pick L n T < 0

theorem bestTo_spec (L : Nat → Ld) (G : Nat → Bool) (k : Nat) : (0 ≤ bestTo L G k → G (bestTo L G k).toNat = false ∧ (L (bestTo L G k).toNat).may = true) ∧ (bestTo L G k < 0 → ∀ i, i < k → G i = true ∨ (L i).may = false) := by
  induction k with
  | zero => simp [bestTo]
  | succ k ih =>
    have hb := bestTo_bd L G k
    unfold bestTo
    split
    · rename_i h
      simp at h
      refine ⟨fun _ => ?_, fun h' => by omega⟩
      simpa using ⟨h.1, h.2.1⟩
    · rename_i h
      refine ⟨ih.1, fun h' i hi => ?_⟩
      rcases Nat.lt_or_ge i k with hik | hik
      · exact ih.2 h' i hik
      · have : i = k := by omega
        subst this
        simp [h'] at h
        cases hg : G i
        · exact .inr (h hg)
        · exact .inl rfl

theorem may_bd {l : Ld} (h : l.may = true) : 0 ≤ l.s ∧ 1 ≤ l.z ∧ l.z ≤ 1048576 ∧ 0 ≤ l.u ∧ l.u < l.z ∧ l.f = false ∧ rightB l.s l.u l.z = true := by
  unfold Ld.may mayB at h
  simp at h
  obtain ⟨h1, h2, h3⟩ := h
  have h1' := h1
  simp [rightB] at h1'
  simp [h1, h2]
  omega

def cnt (G : Nat → Bool) : Nat → Nat
  | 0 => 0
  | k + 1 => cnt G k + if G k then 1 else 0
theorem cnt_le (G : Nat → Bool) (k : Nat) : cnt G k ≤ k := by
  induction k with
  | zero => simp [cnt]
  | succ k ih => unfold cnt; split <;> omega
theorem cnt_lt (G : Nat → Bool) (k i : Nat) (hi : i < k) (h : G i = false) : cnt G k < k := by
  induction k with
  | zero => omega
  | succ k ih =>
    unfold cnt
    have := cnt_le G k
    rcases Nat.lt_or_ge i k with h1 | h1
    · have := ih h1; split <;> omega
    · have : i = k := by omega
      subst this
      simp [h]; omega
theorem cnt_out (G : Nat → Bool) (k j : Nat) (hj : k ≤ j) : cnt (gSet G j) k = cnt G k := by
  induction k with
  | zero => rfl
  | succ k ih =>
    unfold cnt
    rw [ih (by omega)]
    simp [gSet, show k ≠ j by omega]
theorem cnt_set (G : Nat → Bool) (k j : Nat) (hj : j < k) (h : G j = false) : cnt (gSet G j) k = cnt G k + 1 := by
  induction k with
  | zero => omega
  | succ k ih =>
    unfold cnt
    rcases Nat.lt_or_ge j k with h1 | h1
    · rw [ih h1]
      simp [gSet, show k ≠ j by omega]
      omega
    · have : j = k := by omega
      subst this
      rw [cnt_out _ _ _ (Nat.le_refl _)]
      simp [gSet, h]
def sumG (L : Nat → Ld) (G : Nat → Bool) : Nat → Int
  | 0 => 0
  | k + 1 => sumG L G k + if G k then (L k).free else 0
theorem sumG_out (L : Nat → Ld) (G : Nat → Bool) (k j : Nat) (hj : k ≤ j) : sumG L (gSet G j) k = sumG L G k := by
  induction k with
  | zero => rfl
  | succ k ih =>
    unfold sumG
    rw [ih (by omega)]
    simp [gSet, show k ≠ j by omega]
theorem sumG_set (L : Nat → Ld) (G : Nat → Bool) (k j : Nat) (hj : j < k) (h : G j = false) : sumG L (gSet G j) k = sumG L G k + (L j).free := by
  induction k with
  | zero => omega
  | succ k ih =>
    unfold sumG
    rcases Nat.lt_or_ge j k with h1 | h1
    · rw [ih h1]
      simp [gSet, show k ≠ j by omega]
      omega
    · have : j = k := by omega
      subst this
      rw [sumG_out _ _ _ _ (Nat.le_refl _)]
      simp [gSet, h]
theorem sumG_none (L : Nat → Ld) (k : Nat) : sumG L (fun _ => false) k = 0 := by
  induction k with
  | zero => rfl
  | succ k ih => unfold sumG; simp [ih]
theorem cnt_none (k : Nat) : cnt (fun _ => false) k = 0 := by
  induction k with
  | zero => rfl
  | succ k ih => unfold cnt; simp [ih]

/-- While victims are found: what is gone, and what it frees. -/
theorem seq_inv (L : Nat → Ld) (n t : Nat) (h : ∀ i, i < t → 0 ≤ pick L n i) : cnt (seqG L n t) n = t ∧ sumG L (seqG L n t) n = frd L n t ∧ (∀ i, i < n → seqG L n t i = true → (L i).may = true) ∧ 0 ≤ frd L n t ∧ frd L n t ≤ t * 1048576 := by
  induction t with
  | zero => exact ⟨cnt_none n, sumG_none L n, fun i _ h => by simp [seqG] at h, by simp [frd], by simp [frd]⟩
  | succ t ih =>
    obtain ⟨h1, h2, h3, h4, h5⟩ := ih (fun i hi => h i (by omega))
    have hp := h t (by omega)
    have hb := bestTo_bd L (seqG L n t) n
    obtain ⟨hs, hm⟩ := (bestTo_spec L (seqG L n t) n).1 hp
    unfold pick at hp
    have hj : (bestTo L (seqG L n t) n).toNat < n := by omega
    have hbd := may_bd hm
    refine ⟨?_, ?_, fun i hi hg => ?_, ?_, ?_⟩
    · rw [seqG, cnt_set _ _ _ hj hs, h1]
    · rw [seqG, sumG_set _ _ _ _ hj hs, h2]; rfl
    · rw [seqG] at hg
      unfold gSet at hg
      split at hg
      · rename_i e; rw [e]; exact hm
      · exact h3 i hi hg
    · unfold frd pick Ld.free; omega
    · unfold frd pick Ld.free; omega
theorem seq_le (L : Nat → Ld) (n t : Nat) (h : ∀ i, i < t → 0 ≤ pick L n i) : t ≤ n := by
  have := seq_inv L n t h
  have := cnt_le (seqG L n t) n
  omega
theorem seq_lt (L : Nat → Ld) (n t : Nat) (h : ∀ i, i < t → 0 ≤ pick L n i) (ht : 0 ≤ pick L n t) : t < n := seq_le L n (t + 1) fun i hi => by
  rcases Nat.lt_or_ge i t with h1 | h1
  · exact h i h1
  · have : i = t := by omega
    exact this ▸ ht

/-- What can be freed. -/
def freeTo (L : Nat → Ld) : Nat → Int
  | 0 => 0
  | k + 1 => freeTo L k + if rightB (L k).s (L k).u (L k).z && !(L k).f then (L k).free else 0
theorem freeTo_bd (L : Nat → Ld) (k : Nat) : 0 ≤ freeTo L k ∧ freeTo L k ≤ k * 1048576 := by
  induction k with
  | zero => simp [freeTo]
  | succ k ih =>
    unfold freeTo
    split
    · rename_i h
      simp [rightB] at h
      unfold Ld.free
      omega
    · omega
theorem free_all (L : Nat → Ld) (G : Nat → Bool) (k : Nat) (h1 : ∀ i, i < k → G i = true → (L i).may = true) (h2 : ∀ i, i < k → G i = true ∨ (L i).may = false) : freeTo L k = sumG L G k := by
  induction k with
  | zero => rfl
  | succ k ih =>
    unfold freeTo sumG
    rw [ih (fun i hi => h1 i (by omega)) (fun i hi => h2 i (by omega))]
    have a1 := h1 k (by omega)
    have a2 := h2 k (by omega)
    cases hg : G k
    · simp [hg] at a2
      unfold Ld.may mayB at a2
      simp at a2
      by_cases hr : rightB (L k).s (L k).u (L k).z = true
      · cases hf : (L k).f
        · have h3 := a2 hr hf
          simp [rightB] at hr
          simp [Ld.free]
          omega
        · simp [hf]
      · simp at hr
        simp [hr]
    · have := may_bd (a1 hg)
      simp [this]
theorem plan_all (L : Nat → Ld) (n T : Nat) (need : Int) (h : PlanLen L n need T) (hs : frd L n T < need) : freeTo L n = frd L n T := by
  have hp : pick L n T < 0 := by rcases h.stop with h1 | h1 <;> omega
  obtain ⟨h1, h2, h3, _⟩ := seq_inv L n T (fun i hi => (h.go i hi).2)
  rw [← h2]
  exact free_all L _ n h3 ((bestTo_spec L (seqG L n T) n).2 hp)
theorem plan_le (L : Nat → Ld) (n T T' : Nat) (need more : Int) (hm : 0 ≤ more) (h : PlanLen L n need T) (h' : PlanLen L n (need + more) T') : T ≤ T' := by
  rcases Nat.lt_or_ge T' T with hlt | hge
  · have a := h.go T' hlt
    rcases h'.stop with h1 | h1 <;> omega
  · exact hge
theorem frd_mono (L : Nat → Ld) (n t t' : Nat) (h : ∀ i, i < t' → 0 ≤ pick L n i) (ht : t ≤ t') : frd L n t ≤ frd L n t' := by
  induction t' with
  | zero => have : t = 0 := by omega
            subst this; omega
  | succ t' ih =>
    rcases Nat.lt_or_ge t (t' + 1) with h1 | h1
    · have := ih (fun i hi => h i (by omega)) (by omega)
      have hp := h t' (by omega)
      have hbd := may_bd ((bestTo_spec L (seqG L n t') n).1 hp).2
      show frd L n t ≤ frd L n t' + (L (bestTo L (seqG L n t') n).toNat).free
      unfold Ld.free
      omega
    · have : t = t' + 1 := by omega
      subst this; omega
/-- Each of a plan is right, not fixed. -/
theorem plan_may (L : Nat → Ld) (n T : Nat) (need : Int) (h : PlanLen L n need T) (i : Nat) (hi : i < T) : (L (pick L n i).toNat).may = true := ((bestTo_spec L (seqG L n i) n).1 (h.go i hi).2).2

/-- What Gain tells. -/
def gainTo (M : Nat → Ld) : Nat → Int
  | 0 => 0
  | k + 1 => gainTo M k + if rightB (M k).s (M k).u (M k).z then (M k).free else 0
theorem gainTo_bd (M : Nat → Ld) (k : Nat) : 0 ≤ gainTo M k ∧ gainTo M k ≤ k * 1048576 := by
  induction k with
  | zero => simp [gainTo]
  | succ k ih =>
    unfold gainTo
    split
    · rename_i h
      simp [rightB] at h
      unfold Ld.free
      omega
    · omega
theorem gain_plan (L : Nat → Ld) (n T : Nat) (need : Int) (h : PlanLen L n need T) : ∀ t, t ≤ T → gainTo (fun i => L (pick L n i).toNat) t = frd L n t := by
  intro t ht
  induction t with
  | zero => rfl
  | succ t ih =>
    unfold gainTo frd
    rw [ih (by omega)]
    have := may_bd (plan_may L n T need h t (by omega))
    simp [this]
end Go.Proofs.Ytclcilbdopkamaa
