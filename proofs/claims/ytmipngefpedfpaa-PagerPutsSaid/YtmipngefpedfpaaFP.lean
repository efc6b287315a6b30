/- The plain law of the sweep. -/
import Derived.Test.YtmipngefpedfpaaFB
namespace Go.Proofs.Ytmipngefpedfpaa
open Go.RowKit Go.Maps
set_option linter.unusedVariables false
set_option linter.unusedSimpArgs false

def Fr.cand (f : Fr) : Bool := f.used && !decide (0 < f.pins)
theorem cand_not (f : Fr) : (!f.used || decide (0 < f.pins)) = !f.cand := by unfold Fr.cand; cases f.used <;> simp

theorem clr_at (F : Nat → Fr) (k : Nat) : (clr F k k).ref = false := by simp [clr]
theorem clr_cand (F : Nat → Fr) (k i : Nat) : (clr F k i).cand = (F i).cand := by unfold clr Fr.cand; split <;> rfl
theorem clr_ne (F : Nat → Fr) {k i : Nat} (h : i ≠ k) : clr F k i = F i := by unfold clr; rw [if_neg h]

/-- Frames that differ in Ref alone, which may have been cleared. -/
def Cleared (F F' : Nat → Fr) : Prop := ∀ i, (F' i).key = (F i).key ∧ (F' i).used = (F i).used ∧ (F' i).dirty = (F i).dirty ∧ (F' i).pins = (F i).pins ∧ ((F' i).ref = true → (F i).ref = true)
theorem Cleared.refl (F : Nat → Fr) : Cleared F F := fun i => ⟨rfl, rfl, rfl, rfl, id⟩
theorem Cleared.clr {F F' : Nat → Fr} (k : Nat) (h : Cleared (Go.Proofs.Ytmipngefpedfpaa.clr F k) F') : Cleared F F' := by
  intro i
  have := h i
  unfold Go.Proofs.Ytmipngefpedfpaa.clr at this
  split at this
  · exact ⟨this.1, this.2.1, this.2.2.1, this.2.2.2.1, fun x => by simpa using this.2.2.2.2 x⟩
  · exact this
theorem Cleared.cand {F F' : Nat → Fr} (h : Cleared F F') (i : Nat) : (F' i).cand = (F i).cand := by unfold Fr.cand; rw [(h i).2.1, (h i).2.2.2.1]

theorem sw_form (n : Nat) (hn : 0 < n) : ∀ d k F, k < n → Cleared F (sw n d k F).2 ∧ ((sw n d k F).1 = -1 ∨ ∃ r : Nat, (sw n d k F).1 = r ∧ r < n ∧ ((sw n d k F).2 r).cand = true ∧ ((sw n d k F).2 r).ref = false)
  | 0, k, F, hk => ⟨Cleared.refl F, .inl rfl⟩
  | d + 1, k, F, hk => by
    unfold sw
    rw [cand_not]
    cases hc : (F k).cand
    · simp only [Bool.not_false, if_true]
      exact sw_form n hn d _ F (Nat.mod_lt _ hn)
    · simp only [Bool.not_true, Bool.false_eq_true, if_false]
      cases hr : (F k).ref
      · simp only [Bool.false_eq_true, if_false]
        exact ⟨Cleared.refl F, .inr ⟨k, rfl, hk, hc, hr⟩⟩
      · simp only [if_true]
        obtain ⟨h1, h2⟩ := sw_form n hn d _ (clr F k) (Nat.mod_lt (k + 1) hn)
        exact ⟨Cleared.clr k h1, h2⟩

theorem sw_none (n : Nat) (hn : 0 < n) : ∀ d k F, k < n → (sw n d k F).1 = -1 → ∀ s, s < d → (F ((k + s) % n)).cand = true → (F ((k + s) % n)).ref = true ∧ ∀ s', s < s' → s' < d → (k + s') % n ≠ (k + s) % n
  | 0, k, F, hk, h, s, hs, _ => by omega
  | d + 1, k, F, hk, h, s, hs, hcs => by
    have hmod : ∀ s1, ((k + 1) % n + s1) % n = (k + (s1 + 1)) % n := fun s1 => by rw [Nat.mod_add_mod]; congr 1; omega
    have hk0 : (k + 0) % n = k := by rw [Nat.add_zero]; exact Nat.mod_eq_of_lt hk
    unfold sw at h
    rw [cand_not] at h
    cases hc : (F k).cand
    · rw [hc] at h
      simp only [Bool.not_false, if_true] at h
      have ih := sw_none n hn d _ F (Nat.mod_lt (k + 1) hn) h
      cases s with
      | zero => rw [hk0, hc] at hcs; cases hcs
      | succ s1 =>
        have := ih s1 (by omega) (by rw [hmod]; exact hcs)
        rw [hmod] at this
        refine ⟨this.1, fun s' h1 h2 => ?_⟩
        cases s' with
        | zero => omega
        | succ s2 => have h3 := this.2 s2 (by omega) (by omega); rwa [hmod] at h3
    · rw [hc] at h
      simp only [Bool.not_true, Bool.false_eq_true, if_false] at h
      cases hr : (F k).ref
      · rw [hr] at h
        simp only [Bool.false_eq_true, if_false] at h
        omega
      · rw [hr] at h
        simp only [if_true] at h
        have ih := sw_none n hn d _ (clr F k) (Nat.mod_lt (k + 1) hn) h
        have never : ∀ s1, s1 < d → (k + (s1 + 1)) % n ≠ k := by
          intro s1 h1 he
          have h2 := (ih s1 h1 (by rw [hmod, he, clr_cand]; exact hc)).1
          rw [hmod, he, clr_at] at h2
          cases h2
        cases s with
        | zero =>
          rw [hk0]
          refine ⟨hr, fun s' h1 h2 => ?_⟩
          cases s' with
          | zero => omega
          | succ s2 => exact never s2 (by omega)
        | succ s1 =>
          have hne := never s1 (by omega)
          have := ih s1 (by omega) (by rw [hmod, clr_ne F hne]; exact hcs)
          rw [hmod, clr_ne F hne] at this
          refine ⟨this.1, fun s' h1 h2 => ?_⟩
          cases s' with
          | zero => omega
          | succ s2 => have h3 := this.2 s2 (by omega) (by omega); rwa [hmod] at h3

theorem sw_some {n h i : Nat} {F : Nat → Fr} (hh : h < n) (hi : i < n) (hc : (F i).cand = true) : ∃ r : Nat, (sw n (2 * n + 1) h F).1 = r ∧ r < n ∧ ((sw n (2 * n + 1) h F).2 r).cand = true ∧ ((sw n (2 * n + 1) h F).2 r).ref = false := by
  have hn : 0 < n := by omega
  rcases (sw_form n hn (2 * n + 1) h F hh).2 with h1 | h1
  · exfalso
    have e : ∃ s, s < n ∧ (h + s) % n = i := by
      rcases Nat.lt_or_ge i h with hl | hl
      · refine ⟨i + n - h, by omega, ?_⟩
        rw [show h + (i + n - h) = i + n by omega, Nat.add_mod_right, Nat.mod_eq_of_lt hi]
      · refine ⟨i - h, by omega, ?_⟩
        rw [show h + (i - h) = i by omega, Nat.mod_eq_of_lt hi]
    obtain ⟨s, hs, he⟩ := e
    have := (sw_none n hn (2 * n + 1) h F hh h1 s (by omega) (by rw [he]; exact hc)).2 (s + n) (by omega) (by omega)
    apply this
    rw [← Nat.add_assoc, Nat.add_mod_right]
  · exact h1
end Go.Proofs.Ytmipngefpedfpaa
