/- The plain law of FramesPinned. -/
import Derived.Test.YtmipngefpedfpaaFH
import Derived.Test.YtmipngefpedfpaaTP
namespace Go.Proofs.Ytmipngefpedfpaa
open Go.RowKit Go.Maps
set_option linter.unusedVariables false
set_option linter.unusedSimpArgs false

/-- The map tells just which frames are used by which keys. -/
structure Good (n : Nat) (F : Nat → Fr) (g : Int → Option Nat) : Prop where
  a : ∀ j, j < n → (F j).used = true → g (F j).key = some j
  b : ∀ k j, g k = some j → j < n ∧ (F j).used = true ∧ (F j).key = k

theorem Good.put {n r : Nat} {F F1 : Nat → Fr} {g : Int → Option Nat} {key : Int} (G : Good n F g) (hc : Cleared F F1) (hr : r < n) (hg : g key = none) :
    Good n (putF F1 r (Fr.new key)) (upd (if (F1 r).used then upd g (F1 r).key none else g) key (some r)) := by
  have hother : ∀ k j, (if (F1 r).used then upd g (F1 r).key none else g) k = some j → j ≠ r ∧ g k = some j := by
    intro k j h
    cases hu : (F1 r).used
    · rw [hu] at h
      simp only [Bool.false_eq_true, if_false] at h
      refine ⟨fun e => ?_, h⟩
      have := (G.b k j h).2.1
      rw [e, ← (hc r).2.1, hu] at this
      cases this
    · rw [hu] at h
      simp only [if_true] at h
      unfold upd at h
      split at h
      · cases h
      · rename_i hne
        refine ⟨fun e => hne ?_, h⟩
        rw [← (G.b k j h).2.2, e, (hc r).1]
  refine ⟨fun j hj hu => ?_, fun k j h => ?_⟩
  · unfold putF at hu ⊢
    by_cases h1 : j = r
    · rw [if_pos h1]; simp [upd, Fr.new, h1]
    · rw [if_neg h1] at hu ⊢
      have hFj : (F j).used = true := by rw [← (hc j).2.1]; exact hu
      have hgj := G.a j hj hFj
      rw [(hc j).1]
      have hne : (F j).key ≠ key := fun e => by rw [e, hg] at hgj; cases hgj
      unfold upd
      rw [if_neg hne]
      cases hu2 : (F1 r).used
      · simpa using hgj
      · simp only [if_true]
        rw [if_neg, hgj]
        intro e
        have hr2 := G.a r hr (by rw [← (hc r).2.1]; exact hu2)
        rw [← (hc r).1, ← e, hgj] at hr2
        exact h1 (Option.some.inj hr2)
  · unfold upd at h
    by_cases h1 : k = key
    · rw [if_pos h1] at h
      cases h
      unfold putF
      rw [if_pos rfl]
      exact ⟨hr, rfl, h1.symm⟩
    · rw [if_neg h1] at h
      obtain ⟨h2, h3⟩ := hother k j h
      obtain ⟨h4, h5, h6⟩ := G.b k j h3
      unfold putF
      rw [if_neg h2]
      exact ⟨h4, by rw [(hc j).2.1]; exact h5, by rw [(hc j).1]; exact h6⟩

/-- Is frame j pinned? -/
structure PinInv (n : Nat) (q : Nat → Bool) (F : Nat → Fr) (g : Int → Option Nat) (i : Nat) : Prop where
  good : Good n F g
  used : ∀ j, j < n → (F j).used = true
  yes : ∀ j, j < n → q j = true → (F j).key = j ∧ (F j).pins = 1
  no : ∀ j, j < n → q j = false → (F j).pins = 0 ∧ ((F j).key < n ∨ 1000 ≤ (F j).key) ∧ (F j).key < 1000 + i

theorem pin_none {n i : Nat} {q : Nat → Bool} {F : Nat → Fr} {g : Int → Option Nat} (I : PinInv n q F g i) (hn : n ≤ 40) : g (1000 + i) = none := by
  cases hg : g (1000 + i) with
  | none => rfl
  | some j =>
    obtain ⟨h1, h2, h3⟩ := I.good.b _ _ hg
    cases hq : q j
    · have := (I.no j h1 hq).2.2; omega
    · have := (I.yes j h1 hq).1; omega

theorem pin_full {n i h : Nat} {q : Nat → Bool} {F : Nat → Fr} {g : Int → Option Nat} (I : PinInv n q F g i) (hn : n ≤ 40) (hq : ∀ j, j < n → q j = true) :
    TakeIs n (takeR n F h g (1000 + i)) 0 Fr.zero false 10 F h g ∧ PinInv n q F g (i + 1) := by
  have hf : freeAt F n = -1 := first_none (q := fun i => !(F i).used) (fun j hj => by simp [I.used j hj])
  have hlo : loose F n = false := by
    unfold loose
    rw [first_none (q := fun i => (F i).pins == 0) (fun j hj => by simp [(I.yes j hj (hq j hj)).2])]
    rfl
  have e : takeR n F h g (1000 + i) = ⟨0, Fr.zero, false, 10, F, h, g⟩ := by
    unfold takeR
    rw [pin_none I hn, hf, hlo]
    simp
  rw [e]
  refine ⟨⟨rfl, rfl, rfl, rfl, fun _ _ => rfl, rfl, fun _ => rfl⟩, ⟨I.good, I.used, I.yes, fun j hj h => ?_⟩⟩
  rw [hq j hj] at h; cases h

theorem pin_give {n i h j0 : Nat} {q : Nat → Bool} {F : Nat → Fr} {g : Int → Option Nat} (I : PinInv n q F g i) (hn : n ≤ 40) (hh : h < n) (hj0 : j0 < n) (hq0 : q j0 = false) :
    ∃ (r : Nat) (out : Fr) (F' : Nat → Fr) (g' : Int → Option Nat), r < n ∧ out.pins = 0 ∧ TakeIs n (takeR n F h g (1000 + i)) r out true 0 F' ((r + 1) % n) g' ∧ PinInv n q F' g' (i + 1) := by
  have hc0 : (F j0).cand = true := by simp [Fr.cand, I.used j0 hj0, (I.no j0 hj0 hq0).1]
  obtain ⟨r, s1, s2, s3, s4⟩ := sw_some hh hj0 hc0
  have hcl := (sw_form n (by omega) (2 * n + 1) h F hh).1
  obtain ⟨F1, hF1⟩ : ∃ F1, F1 = (sw n (2 * n + 1) h F).2 := ⟨_, rfl⟩
  rw [← hF1] at s3 s4 hcl
  have hs : sw n (2 * n + 1) h F = ((r : Int), F1) := by rw [hF1, ← s1]
  have hqr : q r = false := by
    cases hq : q r
    · rfl
    · have hp := (I.yes r s2 hq).2
      rw [← (hcl r).2.2.2.1] at hp
      simp [Fr.cand, hp] at s3
  have hg := pin_none I hn
  have hu1 : (F1 r).used = true := by rw [(hcl r).2.1]; exact I.used r s2
  have G := Good.put I.good hcl s2 hg
  rw [hu1] at G
  simp only [if_true] at G
  refine ⟨r, F1 r, putF F1 r (Fr.new (1000 + i)), upd (upd g (F1 r).key none) (1000 + i) (some r), s2, by rw [(hcl r).2.2.2.1]; exact (I.no r s2 hqr).1,
    take_give hg I.used ⟨j0, hj0, (I.no j0 hj0 hq0).1⟩ hs rfl (fun j hj => rfl) (fun x => rfl), ⟨G, fun j hj => ?_, fun j hj hq => ?_, fun j hj hq => ?_⟩⟩
  · unfold putF
    split
    · rfl
    · rw [(hcl j).2.1]; exact I.used j hj
  · unfold putF
    rw [if_neg (fun e => by rw [e, hqr] at hq; cases hq), (hcl j).1, (hcl j).2.2.2.1]
    exact I.yes j hj hq
  · unfold putF
    split
    · refine ⟨rfl, .inr ?_, ?_⟩
      · show (1000 : Int) ≤ 1000 + i; omega
      · show (1000 : Int) + i < 1000 + ((i + 1 : Nat) : Int); omega
    · rw [(hcl j).1, (hcl j).2.2.2.1]
      have := I.no j hj hq
      exact ⟨this.1, this.2.1, by omega⟩

/-- The pool while it is filled. -/
def bF (q : Nat → Bool) (k : Nat) : Nat → Fr := fun j => if j < k then ⟨j, true, true, false, if q j then 1 else 0⟩ else Fr.zero
theorem b_step {n k : Nat} {q : Nat → Bool} (hk : k < n) : TakeIs n (takeR n (bF q k) 0 (aG k) k) k Fr.zero false 0 (putF (bF q k) k (Fr.new k)) 0 (aG (k + 1)) := by
  refine take_free (by simp [aG]) hk (by simp [bF, Fr.zero]) (fun i hi => by simp [bF, hi]) (fun i hi => rfl) (fun x => ?_)
  unfold aG
  by_cases h1 : x = k
  · subst h1
    rw [if_pos rfl, if_pos (by omega)]
    simp
  · rw [if_neg h1]
    by_cases h2 : 0 ≤ x ∧ x < k
    · rw [if_pos h2, if_pos (by omega)]
    · rw [if_neg h2, if_neg (by omega)]
theorem b_no {q : Nat → Bool} {k : Nat} (h : q k = false) (i : Nat) : putF (bF q k) k (Fr.new k) i = bF q (k + 1) i := by
  unfold putF bF Fr.new
  by_cases h1 : i = k
  · subst h1; simp [h]
  · rw [if_neg h1]
    by_cases h2 : i < k
    · simp [h2, show i < k + 1 by omega]
    · simp [h2, show ¬ i < k + 1 by omega]
theorem b_yes {q : Nat → Bool} {k : Nat} (h : q k = true) (i : Nat) : putF (putF (bF q k) k (Fr.new k)) k { putF (bF q k) k (Fr.new k) k with pins := (putF (bF q k) k (Fr.new k) k).pins + 1 } i = bF q (k + 1) i := by
  rw [put_put]
  unfold putF bF Fr.new
  by_cases h1 : i = k
  · subst h1; simp [h]
  · rw [if_neg h1]
    by_cases h2 : i < k
    · simp [h2, show i < k + 1 by omega]
    · simp [h2, show ¬ i < k + 1 by omega]
/-- How many of the first k are not pinned. -/
def frees (q : Nat → Bool) : Nat → Nat
  | 0 => 0
  | k + 1 => frees q k + if q k then 0 else 1
theorem frees_le (q : Nat → Bool) (k : Nat) : frees q k ≤ k := by
  induction k with
  | zero => simp [frees]
  | succ k ih => unfold frees; split <;> omega
theorem frees_zero {q : Nat → Bool} {k : Nat} (h : frees q k = 0) : ∀ j, j < k → q j = true := by
  induction k with
  | zero => intro j hj; omega
  | succ k ih =>
    unfold frees at h
    intro j hj
    cases hq : q k
    · rw [hq] at h; simp at h
    · rw [hq] at h
      rcases Nat.lt_or_ge j k with h1 | h1
      · exact ih (by simpa using h) j h1
      · have : j = k := by omega
        subst this; exact hq
theorem frees_pos {q : Nat → Bool} {k : Nat} (h : 0 < frees q k) : ∃ j, j < k ∧ q j = false := by
  induction k with
  | zero => simp [frees] at h
  | succ k ih =>
    cases hq : q k
    · exact ⟨k, by omega, hq⟩
    · unfold frees at h
      rw [hq] at h
      obtain ⟨j, h1, h2⟩ := ih (by simpa using h)
      exact ⟨j, by omega, h2⟩
theorem b_inv {n : Nat} {q : Nat → Bool} (hn : n ≤ 40) : PinInv n q (bF q n) (aG n) 0 := by
  refine ⟨⟨fun j hj _ => ?_, fun k j h => ?_⟩, fun j hj => by simp [bF, hj], fun j hj hq => by simp [bF, hj, hq], fun j hj hq => ⟨by simp [bF, hj, hq], .inl ?_, ?_⟩⟩
  · simp [bF, hj, aG]
  · unfold aG at h
    split at h
    · rename_i hx
      cases h
      have : k.toNat < n := by omega
      refine ⟨this, by simp [bF, this], ?_⟩
      simp [bF, this]; omega
    · cases h
  · simp [bF, hj]
  · simp [bF, hj]; omega
theorem inv_used {n i : Nat} {q : Nat → Bool} {F : Nat → Fr} {g : Int → Option Nat} (I : PinInv n q F g i) : ∀ k, k ≤ n → cntF qUsed F k = k ∧ cntF qPinned F k + frees q k = k := by
  intro k
  induction k with
  | zero => intro _; exact ⟨rfl, rfl⟩
  | succ k ih =>
    intro hk
    obtain ⟨h1, h2⟩ := ih (by omega)
    refine ⟨?_, ?_⟩
    · rw [cntF_yes (q := qUsed) (I.used k (by omega)), h1]
    · unfold frees
      cases hq : q k
      · rw [cntF_no (q := qPinned) (by simp [qPinned, (I.no k (by omega) hq).1])]; simp; omega
      · rw [cntF_yes (q := qPinned) (by simp [qPinned, (I.yes k (by omega) hq).2])]; simp; omega
end Go.Proofs.Ytmipngefpedfpaa
