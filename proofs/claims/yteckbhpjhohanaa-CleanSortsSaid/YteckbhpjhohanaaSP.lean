/- The plain law of the stable sort: numbers in places, and what swaps make of them. -/
import Derived.Test.YteckbhpjhohanaaBase
namespace Go.Proofs.Yteckbhpjhohanaa
set_option linter.unusedVariables false
set_option linter.unusedSimpArgs false

def swp (D : Nat → Int) (i j : Nat) : Nat → Int := fun k => if k = i then D j else if k = j then D i else D k

/-- D' has in the places from a on, below b, what D has there, each once; elsewhere it is D. -/
def Pm (a b : Nat) (D D' : Nat → Int) : Prop := ∃ p : Nat → Nat, (∀ i, a ≤ i → i < b → a ≤ p i ∧ p i < b) ∧ (∀ i j, p i = p j → i = j) ∧ (∀ i, ¬ (a ≤ i ∧ i < b) → p i = i) ∧ ∀ i, D' i = D (p i)

theorem Pm.refl (a b : Nat) (D : Nat → Int) : Pm a b D D := ⟨id, fun i h1 h2 => ⟨h1, h2⟩, fun _ _ h => h, fun _ _ => rfl, fun _ => rfl⟩
theorem Pm.trans {a b : Nat} {D D1 D2 : Nat → Int} (h : Pm a b D D1) (k : Pm a b D1 D2) : Pm a b D D2 := by
  obtain ⟨p, p1, p2, p3, p4⟩ := h
  obtain ⟨q, q1, q2, q3, q4⟩ := k
  exact ⟨fun i => p (q i), fun i h1 h2 => p1 _ (q1 i h1 h2).1 (q1 i h1 h2).2, fun i j h => q2 _ _ (p2 _ _ h), fun i h => by show p (q i) = i; rw [q3 i h, p3 i h], fun i => by rw [q4, p4]⟩
theorem Pm.mono {a b a' b' : Nat} {D D1 : Nat → Int} (h : Pm a b D D1) (h1 : a' ≤ a) (h2 : b ≤ b') : Pm a' b' D D1 := by
  obtain ⟨p, p1, p2, p3, p4⟩ := h
  refine ⟨p, fun i k1 k2 => ?_, p2, fun i k => p3 i (fun e => k ⟨by omega, by omega⟩), p4⟩
  by_cases h : a ≤ i ∧ i < b
  · have := p1 i h.1 h.2; omega
  · rw [p3 i h]; exact ⟨k1, k2⟩
theorem Pm.swp {a b i j : Nat} (D : Nat → Int) (hi : a ≤ i) (hi' : i < b) (hj : a ≤ j) (hj' : j < b) : Pm a b D (swp D i j) := by
  refine ⟨fun k => if k = i then j else if k = j then i else k, fun k h1 h2 => ?_, fun k l h => ?_, fun k h => ?_, fun k => ?_⟩
  · simp only; split
    · exact ⟨hj, hj'⟩
    · split
      · exact ⟨hi, hi'⟩
      · exact ⟨h1, h2⟩
  · simp only at h
    split at h <;> split at h <;> (try split at h) <;> (try split at h) <;> omega
  · simp only
    rw [if_neg (by rintro rfl; exact h ⟨hi, hi'⟩), if_neg (by rintro rfl; exact h ⟨hj, hj'⟩)]
  · unfold Go.Proofs.Yteckbhpjhohanaa.swp
    simp only
    split
    · rfl
    · split <;> rfl
theorem Pm.inn {a b : Nat} {D D' : Nat → Int} (h : Pm a b D D') {i : Nat} (h1 : a ≤ i) (h2 : i < b) : ∃ j, a ≤ j ∧ j < b ∧ D' i = D j := by
  obtain ⟨p, p1, p2, p3, p4⟩ := h
  exact ⟨p i, (p1 i h1 h2).1, (p1 i h1 h2).2, p4 i⟩
theorem Pm.out {a b : Nat} {D D' : Nat → Int} (h : Pm a b D D') {i : Nat} (h1 : ¬ (a ≤ i ∧ i < b)) : D' i = D i := by
  obtain ⟨p, p1, p2, p3, p4⟩ := h
  rw [p4, p3 i h1]

/-- The order: by what the numbers are worth; of those that are worth the same the lesser comes first. -/
def Lt (v : Int → Int) (x y : Int) : Prop := v x < v y ∨ (v x = v y ∧ x < y)
theorem Lt.trans {v : Int → Int} {x y z : Int} (h : Lt v x y) (k : Lt v y z) : Lt v x z := by unfold Lt at *; omega
/-- A greater number that is not worth less comes behind. -/
theorem lt_of_not {v : Int → Int} {x y : Int} (h : x < y) (k : ¬ v y < v x) : Lt v x y := by unfold Lt; omega
theorem lt_of_less {v : Int → Int} {x y : Int} (k : v y < v x) : Lt v y x := .inl k

def Srt (v : Int → Int) (a b : Nat) (D : Nat → Int) : Prop := ∀ i j, a ≤ i → i < j → j < b → Lt v (D i) (D j)
def Rise (a b : Nat) (D : Nat → Int) : Prop := ∀ i j, a ≤ i → i < j → j < b → D i < D j
def Crs (a m b : Nat) (D : Nat → Int) : Prop := ∀ i j, a ≤ i → i < m → m ≤ j → j < b → D i < D j

theorem Srt.one (v : Int → Int) (a b : Nat) (D : Nat → Int) (h : b ≤ a + 1) : Srt v a b D := fun i j h1 h2 h3 => by omega

/-! ### insertion -/
/-- At place j lies the number that is put in; all but that one are in order up to i; behind j all come behind it. -/
structure Ins (v : Int → Int) (a i j : Nat) (D : Nat → Int) : Prop where
  oth : ∀ p q, a ≤ p → p < q → q ≤ i → p ≠ j → q ≠ j → Lt v (D p) (D q)
  beh : ∀ q, j < q → q ≤ i → Lt v (D j) (D q)
  big : ∀ p, a ≤ p → p ≤ i → p ≠ j → D p < D j
theorem Ins.start {v : Int → Int} {a i : Nat} {D : Nat → Int} (h : Srt v a i D) (hb : ∀ p, a ≤ p → p < i → D p < D i) : Ins v a i i D :=
  ⟨fun p q h1 h2 h3 h4 h5 => h p q h1 h2 (by omega), fun q h1 h2 => by omega, fun p h1 h2 h3 => hb p h1 (by omega)⟩
theorem Ins.step {v : Int → Int} {a i j : Nat} {D : Nat → Int} (h : Ins v a i (j + 1) D) (ha : a ≤ j) (hi : j + 1 ≤ i) (hl : v (D (j + 1)) < v (D j)) : Ins v a i j (swp D (j + 1) j) := by
  have e1 : swp D (j + 1) j j = D (j + 1) := by simp [swp]
  have e2 : swp D (j + 1) j (j + 1) = D j := by simp [swp]
  have e3 : ∀ k, k ≠ j → k ≠ j + 1 → swp D (j + 1) j k = D k := fun k h1 h2 => by simp [swp, h1, h2]
  refine ⟨fun p q h1 h2 h3 h4 h5 => ?_, fun q h1 h2 => ?_, fun p h1 h2 h3 => ?_⟩
  · by_cases hp : p = j + 1
    · subst hp
      rw [e2, e3 q (by omega) (by omega)]
      exact h.oth j q ha (by omega) h3 (by omega) (by omega)
    · by_cases hq : q = j + 1
      · subst hq
        rw [e2, e3 p (by omega) (by omega)]
        exact h.oth p j h1 (by omega) (by omega) (by omega) (by omega)
      · rw [e3 p (by omega) hp, e3 q (by omega) hq]
        exact h.oth p q h1 h2 h3 hp hq
  · rw [e1]
    by_cases hq : q = j + 1
    · subst hq
      rw [e2]
      exact lt_of_less hl
    · rw [e3 q (by omega) hq]
      exact h.beh q (by omega) h2
  · rw [e1]
    by_cases hp : p = j + 1
    · subst hp
      rw [e2]
      exact h.big j ha (by omega) (by omega)
    · rw [e3 p h3 hp]
      exact h.big p h1 h2 hp
theorem Ins.done {v : Int → Int} {a i j : Nat} {D : Nat → Int} (h : Ins v a i j D) (ha : a ≤ j) (hs : a < j → ¬ v (D j) < v (D (j - 1))) : Srt v a (i + 1) D := by
  intro p q h1 h2 h3
  by_cases hp : p = j
  · subst hp
    exact h.beh q h2 (by omega)
  · by_cases hq : q = j
    · subst hq
      have h4 : Lt v (D (q - 1)) (D q) := lt_of_not (h.big (q - 1) (by omega) (by omega) (by omega)) (hs (by omega))
      by_cases hp1 : p = q - 1
      · rw [hp1]; exact h4
      · exact (h.oth p (q - 1) h1 (by omega) (by omega) hp (by omega)).trans h4
    · exact h.oth p q h1 h2 (by omega) hp hq

/-! ### rotation -/
def swpR (D : Nat → Int) (a b n : Nat) : Nat → Int := fun i => if a ≤ i ∧ i < a + n then D (i + (b - a)) else if b ≤ i ∧ i < b + n then D (i - (b - a)) else D i
theorem swpR_zero (D : Nat → Int) (a b : Nat) : swpR D a b 0 = D := by
  funext i
  unfold swpR
  rw [if_neg (by omega), if_neg (by omega)]
theorem swpR_succ (D : Nat → Int) (a b n : Nat) (h : a + n < b) : swp (swpR D a b n) (a + n) (b + n) = swpR D a b (n + 1) := by
  funext i
  unfold swp swpR
  by_cases h1 : i = a + n
  · subst h1
    rw [if_pos rfl, if_neg (by omega), if_neg (by omega), if_pos (by omega)]
    congr 1 <;> omega
  · rw [if_neg h1]
    by_cases h2 : i = b + n
    · subst h2
      rw [if_pos rfl, if_neg (by omega), if_neg (by omega), if_neg (by omega), if_pos (by omega)]
      congr 1 <;> omega
    · rw [if_neg h2]
      by_cases h3 : a ≤ i ∧ i < a + n
      · rw [if_pos h3, if_pos (by omega)]
      · rw [if_neg h3]
        by_cases h4 : b ≤ i ∧ i < b + n
        · rw [if_pos h4, if_neg (by omega), if_pos (by omega)]
        · rw [if_neg h4, if_neg (by omega), if_neg (by omega)]
theorem Pm.swpR {a b n lo hi : Nat} (D : Nat → Int) (h : a + n ≤ b) (h1 : lo ≤ a) (h2 : b + n ≤ hi) : Pm lo hi D (swpR D a b n) := by
  induction n with
  | zero => rw [swpR_zero]; exact Pm.refl _ _ _
  | succ n ih =>
    rw [← swpR_succ D a b n (by omega)]
    exact (ih (by omega) (by omega)).trans (Pm.swp _ (by omega) (by omega) (by omega) (by omega))

/-- The places from a on, below m, and those from m on, below b, one behind the other the other way round. -/
def rot (D : Nat → Int) (a m b : Nat) : Nat → Int := fun i => if a ≤ i ∧ i < a + (b - m) then D (i + (m - a)) else if a + (b - m) ≤ i ∧ i < b then D (i - (b - m)) else D i
theorem rot_more (D : Nat → Int) (m i j : Nat) (hi : i ≤ m) (hj : 0 < j) (h : j < i) : rot (swpR D (m - i) m j) (m - (i - j)) m (m + j) = rot D (m - i) m (m + j) := by
  funext k
  unfold rot swpR
  by_cases h1 : m - i ≤ k ∧ k < m - i + j
  · rw [if_neg (by omega), if_neg (by omega), if_pos h1, if_pos (by omega)]
  · by_cases h2 : m - i + j ≤ k ∧ k < m - i + j + j
    · rw [if_pos (by omega), if_neg (by omega), if_pos (by omega), if_neg (by omega), if_pos (by omega)]
      congr 1 <;> omega
    · by_cases h3 : m - i + j + j ≤ k ∧ k < m + j
      · rw [if_neg (by omega), if_pos (by omega), if_neg (by omega), if_neg (by omega), if_neg (by omega), if_pos (by omega)]
      · rw [if_neg (by omega), if_neg (by omega), if_neg (by omega), if_neg (by omega), if_neg (by omega), if_neg (by omega)]
theorem rot_less (D : Nat → Int) (m i j : Nat) (hi : i ≤ m) (hi0 : 0 < i) (h : i < j) : rot (swpR D (m - i) (m + j - i) i) (m - i) m (m + (j - i)) = rot D (m - i) m (m + j) := by
  funext k
  unfold rot swpR
  by_cases h1 : m - i ≤ k ∧ k < m + (j - i) - i
  · rw [if_pos (by omega), if_neg (by omega), if_neg (by omega), if_pos (by omega)]
  · by_cases h2 : m + (j - i) - i ≤ k ∧ k < m + (j - i)
    · rw [if_neg (by omega), if_pos (by omega), if_pos (by omega), if_pos (by omega)]
      congr 1 <;> omega
    · by_cases h3 : m + (j - i) ≤ k ∧ k < m + j
      · rw [if_neg (by omega), if_neg (by omega), if_neg (by omega), if_pos (by omega), if_neg (by omega), if_pos (by omega)]
        congr 1 <;> omega
      · rw [if_neg (by omega), if_neg (by omega), if_neg (by omega), if_neg (by omega), if_neg (by omega), if_neg (by omega)]
theorem rot_same (D : Nat → Int) (m i : Nat) (hi : i ≤ m) : swpR D (m - i) m i = rot D (m - i) m (m + i) := by
  funext k
  unfold rot swpR
  by_cases h1 : m - i ≤ k ∧ k < m
  · rw [if_pos (by omega), if_pos (by omega)]
  · by_cases h2 : m ≤ k ∧ k < m + i
    · rw [if_neg (by omega), if_pos (by omega), if_neg (by omega), if_pos (by omega)]
      congr 1 <;> omega
    · rw [if_neg (by omega), if_neg (by omega), if_neg (by omega), if_neg (by omega)]

/-! ### the merge -/
/-- What the search has found: c below start: the left one stays; from start on: the right one comes first. -/
structure Split (v : Int → Int) (a m b start : Nat) (D : Nat → Int) : Prop where
  lo : a ≤ start
  hi : start ≤ m
  top : (a + b) / 2 + m - start ≤ b
  bot : m ≤ (a + b) / 2 + m - start
  left : ∀ c, a ≤ c → c < start → (a + b) / 2 + m - 1 - c < b → Lt v (D c) (D ((a + b) / 2 + m - 1 - c))
  right : ∀ c, start ≤ c → c < m → m ≤ (a + b) / 2 + m - 1 - c → Lt v (D ((a + b) / 2 + m - 1 - c)) (D c)

theorem rot_left {v : Int → Int} {a m b s : Nat} {D : Nat → Int} (h : Split v a m b s D) (h1 : Srt v a m D) (h2 : Srt v m b D) (h3 : Crs a m b D) (ham : a < m) (hmb : m < b) :
    let D1 := rot D s m ((a + b) / 2 + m - s)
    (Srt v a s D1 ∧ Srt v s ((a + b) / 2) D1 ∧ Crs a s ((a + b) / 2) D1) ∧ (Srt v ((a + b) / 2) ((a + b) / 2 + m - s) D1 ∧ Srt v ((a + b) / 2 + m - s) b D1 ∧ Crs ((a + b) / 2) ((a + b) / 2 + m - s) b D1) ∧
    (∀ i j, a ≤ i → i < (a + b) / 2 → (a + b) / 2 ≤ j → j < b → Lt v (D1 i) (D1 j)) := by
  obtain ⟨k1, k2, k3, k4, k5, k6⟩ := h
  have hm2 : a ≤ (a + b) / 2 ∧ (a + b) / 2 < b ∧ 2 * ((a + b) / 2) ≤ a + b ∧ a + b ≤ 2 * ((a + b) / 2) + 1 := by omega
  generalize (a + b) / 2 = md at k3 k4 k5 k6 hm2 ⊢
  obtain ⟨q1, q2, q3, q4⟩ := hm2
  have eA : ∀ i, i < s → rot D s m (md + m - s) i = D i := fun i hi => by unfold rot; rw [if_neg (by omega), if_neg (by omega)]
  have eB : ∀ i, s ≤ i → i < md → rot D s m (md + m - s) i = D (i + (m - s)) := fun i h1 h2 => by unfold rot; rw [if_pos (by omega)]
  have eC : ∀ i, md ≤ i → i < md + m - s → rot D s m (md + m - s) i = D (i - (md - s)) := fun i h1 h2 => by
    unfold rot; rw [if_neg (by omega), if_pos (by omega)]; congr 1 <;> omega
  have eD : ∀ i, md + m - s ≤ i → rot D s m (md + m - s) i = D i := fun i hi => by unfold rot; rw [if_neg (by omega), if_neg (by omega)]
  -- what lies in the left half comes ahead of what lies in the right half
  have AA : ∀ i j, a ≤ i → i < s → s ≤ j → j < m → Lt v (D i) (D j) := fun i j g1 g2 g3 g4 => h1 i j g1 (by omega) g4
  have BB : ∀ i j, m ≤ i → i < md + m - s → md + m - s ≤ j → j < b → Lt v (D i) (D j) := fun i j g1 g2 g3 g4 => h2 i j g1 (by omega) g4
  have AB : ∀ i j, a ≤ i → i < s → md + m - s ≤ j → j < b → Lt v (D i) (D j) := fun i j g1 g2 g3 g4 => by
    have g5 := k5 (s - 1) (by omega) (by omega) (by omega)
    rw [show md + m - 1 - (s - 1) = md + m - s by omega] at g5
    have g6 : Lt v (D i) (D (md + m - s)) := by
      by_cases hi : i = s - 1
      · rw [hi]; exact g5
      · exact (h1 i (s - 1) g1 (by omega) (by omega)).trans g5
    by_cases hj : j = md + m - s
    · rw [hj]; exact g6
    · exact g6.trans (h2 _ j (by omega) (by omega) g4)
  have BA : ∀ i j, m ≤ i → i < md + m - s → s ≤ j → j < m → Lt v (D i) (D j) := fun i j g1 g2 g3 g4 => by
    have g5 := k6 s (Nat.le_refl _) (by omega) (by omega)
    have g6 : Lt v (D i) (D s) := by
      by_cases hi : i = md + m - 1 - s
      · rw [hi]; exact g5
      · exact (h2 i (md + m - 1 - s) g1 (by omega) (by omega)).trans g5
    by_cases hj : j = s
    · rw [hj]; exact g6
    · exact g6.trans (h1 s j (by omega) (by omega) g4)
  refine ⟨⟨fun i j g1 g2 g3 => ?_, fun i j g1 g2 g3 => ?_, fun i j g1 g2 g3 g4 => ?_⟩, ⟨fun i j g1 g2 g3 => ?_, fun i j g1 g2 g3 => ?_, fun i j g1 g2 g3 g4 => ?_⟩, fun i j g1 g2 g3 g4 => ?_⟩
  · rw [eA i (by omega), eA j (by omega)]; exact h1 i j g1 g2 (by omega)
  · rw [eB i g1 (by omega), eB j (by omega) g3]; exact h2 _ _ (by omega) (by omega) (by omega)
  · rw [eA i g2, eB j g3 g4]; exact h3 _ _ (by omega) (by omega) (by omega) (by omega)
  · rw [eC i g1 (by omega), eC j (by omega) g3]; exact h1 _ _ (by omega) (by omega) (by omega)
  · rw [eD i g1, eD j (by omega)]; exact h2 _ _ (by omega) (by omega) (by omega)
  · rw [eC i g1 g2, eD j g3]; exact h3 _ _ (by omega) (by omega) (by omega) (by omega)
  · by_cases hi : i < s
    · rw [eA i hi]
      by_cases hj : j < md + m - s
      · rw [eC j g3 hj]; exact AA _ _ g1 hi (by omega) (by omega)
      · rw [eD j (by omega)]; exact AB _ _ g1 hi (by omega) g4
    · rw [eB i (by omega) g2]
      by_cases hj : j < md + m - s
      · rw [eC j g3 hj]; exact BA _ _ (by omega) (by omega) (by omega) (by omega)
      · rw [eD j (by omega)]; exact BB _ _ (by omega) (by omega) (by omega) g4

theorem Pm.rot {a m b lo hi : Nat} (D : Nat → Int) (h1 : lo ≤ a) (h2 : a ≤ m) (h3 : m ≤ b) (h4 : b ≤ hi) : Pm lo hi D (rot D a m b) := by
  refine ⟨fun i => if a ≤ i ∧ i < a + (b - m) then i + (m - a) else if a + (b - m) ≤ i ∧ i < b then i - (b - m) else i, fun i g1 g2 => ?_, fun i j g => ?_, fun i g => ?_, fun i => ?_⟩
  · simp only; split
    · omega
    · split <;> omega
  · simp only at g
    split at g <;> split at g <;> (try split at g) <;> (try split at g) <;> omega
  · simp only
    rw [if_neg (by omega), if_neg (by omega)]
  · unfold Go.Proofs.Yteckbhpjhohanaa.rot
    simp only
    split
    · rfl
    · split <;> rfl

/-- Both halves in order, and all of the left one ahead of all of the right one. -/
theorem srt_join {v : Int → Int} {a m b : Nat} {D D' : Nat → Int} (h1 : Srt v a m D') (h2 : Srt v m b D') (h3 : ∀ i j, a ≤ i → i < m → m ≤ j → j < b → Lt v (D' i) (D' j)) : Srt v a b D' := by
  intro i j g1 g2 g3
  by_cases hj : j < m
  · exact h1 i j g1 g2 hj
  · by_cases hi : i < m
    · exact h3 i j g1 hi (by omega) g3
    · exact h2 i j (by omega) g2 g3

/-! ### groups -/
/-- Places of one group are in order; those of others as they were. -/
def Grp (v : Int → Int) (g : Nat → Nat) (n : Nat) (D : Nat → Int) : Prop := ∀ i j, i < j → j < n → (g i = g j → Lt v (D i) (D j)) ∧ (g i ≠ g j → D i < D j)
theorem Grp.step {v : Int → Int} {g g' : Nat → Nat} {n lo hi : Nat} {D D' : Nat → Int} (h : Grp v g n D) (p : Pm lo hi D D') (s : Srt v lo hi D') (hn : hi ≤ n)
    (h1 : ∀ i j, i < n → j < n → ¬ (lo ≤ i ∧ i < hi) → ¬ (lo ≤ j ∧ j < hi) → (g' i = g' j ↔ g i = g j)) (h2 : ∀ i j, i < n → j < n → lo ≤ i → i < hi → ¬ (lo ≤ j ∧ j < hi) → g i ≠ g j ∧ g' i ≠ g' j)
    (h3 : ∀ i j, lo ≤ i → i < hi → lo ≤ j → j < hi → g' i = g' j) : Grp v g' n D' := by
  intro i j hij hj
  by_cases hi' : lo ≤ i ∧ i < hi
  · by_cases hj' : lo ≤ j ∧ j < hi
    · exact ⟨fun _ => s i j hi'.1 hij hj'.2, fun e => absurd (h3 i j hi'.1 hi'.2 hj'.1 hj'.2) e⟩
    · obtain ⟨i0, k1, k2, k3⟩ := p.inn hi'.1 hi'.2
      rw [k3, p.out hj']
      refine ⟨fun e => absurd e (h2 i j (by omega) hj hi'.1 hi'.2 hj').2, fun _ => (h i0 j (by omega) hj).2 (h2 i0 j (by omega) hj k1 k2 hj').1⟩
  · by_cases hj' : lo ≤ j ∧ j < hi
    · obtain ⟨j0, k1, k2, k3⟩ := p.inn hj'.1 hj'.2
      rw [k3, p.out hi']
      refine ⟨fun e => absurd e.symm (h2 j i hj (by omega) hj'.1 hj'.2 hi').2, fun _ => (h i j0 (by omega) (by omega)).2 (fun e => (h2 j0 i (by omega) (by omega) k1 k2 hi').1 e.symm)⟩
    · rw [p.out hi', p.out hj']
      have e := h1 i j (by omega) hj hi' hj'
      exact ⟨fun x => (h i j hij hj).1 (e.1 x), fun x => (h i j hij hj).2 (fun y => x (e.2 y))⟩
/-- The groups while blocks of s are put in order, up to a. -/
def g1 (s a : Nat) : Nat → Nat := fun i => if i < a then i / s else 1000 + i
/-- The groups while blocks of s are merged by twos, up to a. -/
def g2 (s a : Nat) : Nat → Nat := fun i => if i < a then i / (2 * s) else 1000 + i / s
theorem grp_rise {v : Int → Int} {s n : Nat} {D : Nat → Int} (h : Rise 0 n D) : Grp v (g1 s 0) n D := fun i j h1 h2 => by
  unfold g1
  rw [if_neg (by omega), if_neg (by omega)]
  exact ⟨fun e => by omega, fun _ => h i j (by omega) h1 h2⟩
theorem grp1_step {v : Int → Int} {a n : Nat} {D D' : Nat → Int} (h : Grp v (g1 20 a) n D) (ha : a % 20 = 0) (hn : n ≤ 200) (hi : Nat) (hh : hi ≤ a + 20) (hl : a ≤ hi) (hin : hi ≤ n) (hend : hi = a + 20 ∨ hi = n) (p : Pm a hi D D') (s : Srt v a hi D') : Grp v (g1 20 hi) n D' := by
  refine h.step p s hin (fun i j k1 k2 k3 k4 => ?_) (fun i j k1 k2 k3 k4 k5 => ?_) (fun i j k1 k2 k3 k4 => ?_)
  · unfold g1
    constructor
    · intro e; repeat' split at e
      all_goals (repeat' split) <;> omega
    · intro e; repeat' split at e
      all_goals (repeat' split) <;> omega
  · unfold g1
    constructor
    · intro e; repeat' split at e
      all_goals omega
    · intro e; repeat' split at e
      all_goals omega
  · unfold g1
    rw [if_pos k2, if_pos k4]
    omega
theorem grp1_rise {v : Int → Int} {a n : Nat} {D : Nat → Int} (h : Grp v (g1 20 a) n D) {b : Nat} (hb : b ≤ n) : Rise a b D := fun i j h1 h2 h3 => by
  refine (h i j h2 (by omega)).2 ?_
  unfold g1
  rw [if_neg (by omega), if_neg (by omega)]
  omega
theorem grp_12 {v : Int → Int} {n : Nat} {D : Nat → Int} (h : Grp v (g1 20 n) n D) : Grp v (g2 20 0) n D := fun i j h1 h2 => by
  have := h i j h1 h2
  unfold g1 at this
  rw [if_pos (by omega), if_pos (by omega)] at this
  unfold g2
  rw [if_neg (by omega), if_neg (by omega)]
  exact ⟨fun e => this.1 (by omega), fun e => this.2 (by omega)⟩
def Blk (s : Nat) : Prop := s = 20 ∨ s = 40 ∨ s = 80 ∨ s = 160
theorem grp2_step {v : Int → Int} {s a n : Nat} {D D' : Nat → Int} (hs : Blk s) (h : Grp v (g2 s a) n D) (ha : a % (2 * s) = 0) (hn : n ≤ 200) (hi : Nat) (hh : hi ≤ a + 2 * s) (hl : a ≤ hi) (hin : hi ≤ n) (hend : hi = a + 2 * s ∨ hi = n) (p : Pm a hi D D') (st : Srt v a hi D') : Grp v (g2 s hi) n D' := by
  refine h.step p st hin (fun i j k1 k2 k3 k4 => ?_) (fun i j k1 k2 k3 k4 k5 => ?_) (fun i j k1 k2 k3 k4 => ?_)
  · unfold g2
    rcases hs with rfl | rfl | rfl | rfl
    all_goals
      constructor
      · intro e; repeat' split at e
        all_goals (repeat' split) <;> omega
      · intro e; repeat' split at e
        all_goals (repeat' split) <;> omega
  · unfold g2
    rcases hs with rfl | rfl | rfl | rfl
    all_goals
      constructor
      · intro e; repeat' split at e
        all_goals omega
      · intro e; repeat' split at e
        all_goals omega
  · unfold g2
    rw [if_pos k2, if_pos k4]
    rcases hs with rfl | rfl | rfl | rfl <;> omega
/-- A block that is left alone at the end. -/
theorem grp2_end {v : Int → Int} {s a n : Nat} {D : Nat → Int} (hs : Blk s) (h : Grp v (g2 s a) n D) (ha : a % (2 * s) = 0) (hn : n ≤ 200) (hl : n ≤ a + s) (han : a ≤ n) : Grp v (g2 s n) n D := fun i j h1 h2 => by
  have := h i j h1 h2
  unfold g2 at this ⊢
  rw [if_pos (by omega), if_pos (by omega)]
  rcases hs with rfl | rfl | rfl | rfl
  all_goals
    constructor
    · intro e; refine this.1 ?_
      repeat' split
      all_goals omega
    · intro e; refine this.2 ?_
      repeat' split
      all_goals omega
theorem grp2_next {v : Int → Int} {s n : Nat} {D : Nat → Int} (h : Grp v (g2 s n) n D) : Grp v (g2 (2 * s) 0) n D := fun i j h1 h2 => by
  have := h i j h1 h2
  unfold g2 at this ⊢
  rw [if_pos (by omega), if_pos (by omega)] at this
  rw [if_neg (by omega), if_neg (by omega)]
  exact ⟨fun e => this.1 (by omega), fun e => this.2 (by omega)⟩
/-- What a merge asks of a block of s and the next one. -/
theorem grp2_pre {v : Int → Int} {s a n b : Nat} {D : Nat → Int} (hs : Blk s) (h : Grp v (g2 s a) n D) (ha : a % (2 * s) = 0) (hn : n ≤ 200) (hb : b ≤ n) (hb2 : b ≤ a + 2 * s) (hm : a + s < b) :
    Srt v a (a + s) D ∧ Srt v (a + s) b D ∧ Crs a (a + s) b D := by
  unfold Grp g2 at h
  refine ⟨fun i j k1 k2 k3 => (h i j k2 (by omega)).1 ?_, fun i j k1 k2 k3 => (h i j k2 (by omega)).1 ?_, fun i j k1 k2 k3 k4 => (h i j (by omega) (by omega)).2 ?_⟩
  all_goals
    rw [if_neg (by omega), if_neg (by omega)]
    rcases hs with rfl | rfl | rfl | rfl <;> omega
theorem grp2_srt {v : Int → Int} {s n : Nat} {D : Nat → Int} (h : Grp v (g2 s 0) n D) (hn : n ≤ s) : Srt v 0 n D := fun i j h1 h2 h3 => by
  refine (h i j h2 h3).1 ?_
  unfold g2
  rw [if_neg (by omega), if_neg (by omega), Nat.div_eq_of_lt (by omega), Nat.div_eq_of_lt (by omega)]
end Go.Proofs.Yteckbhpjhohanaa
