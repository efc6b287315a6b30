/- The plain law of FramesTouched. -/
import Derived.Test.YtmipngefpedfpaaFH
namespace Go.Proofs.Ytmipngefpedfpaa
open Go.RowKit Go.Maps
set_option linter.unusedVariables false
set_option linter.unusedSimpArgs false

theorem PoolAt.congr {w : World} {P B M n h h' c : Nat} {F F' : Nat → Fr} {g g' : Int → Option Nat} (p : PoolAt w P B M n F h g c) (hF : ∀ i, i < n → F i = F' i) (hh : h = h') (hg : ∀ k, g k = g' k) : PoolAt w P B M n F' h' g' c := by
  subst hh
  have : g = g' := funext hg
  subst this
  exact ⟨p.l0, p.l1, p.l2, p.lz, fun i hi => hF i hi ▸ p.fr i hi, p.fz, p.mp, p.ne, p.pos, p.most, p.hand, fun i hi => hF i hi ▸ p.kw i hi⟩

/-- What a Take answers and leaves, told by what is seen of it. -/
structure TakeIs (n : Nat) (r : TakeR) (frame : Int) (out : Fr) (given : Bool) (e : Int) (F : Nat → Fr) (h : Nat) (g : Int → Option Nat) : Prop where
  frame : r.frame = frame
  out : r.out = out
  given : r.given = given
  e : r.e = e
  F : ∀ i, i < n → r.F i = F i
  h : r.h = h
  g : ∀ k, r.g k = g k

theorem take_free {n h j : Nat} {F F' : Nat → Fr} {g g' : Int → Option Nat} {key : Int} (hg : g key = none) (hj : j < n) (hu : (F j).used = false) (hb : ∀ i, i < j → (F i).used = true)
    (hF : ∀ i, i < n → (if i = j then Fr.new key else F i) = F' i) (hgg : ∀ k, (if k = key then some j else g k) = g' k) : TakeIs n (takeR n F h g key) j Fr.zero false 0 F' h g' := by
  have hf : freeAt F n = j := first_is (q := fun i => !(F i).used) hj (by simp [hu]) (fun i hi => by simp [hb i hi])
  have e : takeR n F h g key = ⟨j, Fr.zero, false, 0, putF F j (Fr.new key), h, upd g key (some j)⟩ := by
    unfold takeR
    rw [hg, hf, if_neg (by simp), if_pos (by omega)]
    rfl
  rw [e]
  exact ⟨rfl, rfl, rfl, rfl, hF, rfl, hgg⟩

theorem take_give {n h r h' : Nat} {F F1 F' : Nat → Fr} {g g' : Int → Option Nat} {key : Int} (hg : g key = none) (hu : ∀ i, i < n → (F i).used = true) (hl : ∃ i, i < n ∧ (F i).pins = 0) (hs : sw n (2 * n + 1) h F = ((r : Int), F1)) (hh : (r + 1) % n = h')
    (hF : ∀ i, i < n → (if i = r then Fr.new key else F1 i) = F' i) (hgg : ∀ k, (if k = key then some r else if k = (F1 r).key then none else g k) = g' k) : TakeIs n (takeR n F h g key) r (F1 r) true 0 F' h' g' := by
  have hf : freeAt F n = -1 := first_none (q := fun i => !(F i).used) (fun i hi => by simp [hu i hi])
  have hlo : loose F n = true := by
    unfold loose
    obtain ⟨i, hi, hp⟩ := hl
    rcases first_spec (fun i => (F i).pins == 0) n with ⟨k1, k2⟩ | ⟨j, k1, k2, k3, k4⟩
    · have := k2 i hi; simp [hp] at this
    · rw [k1]; simp
  have e : takeR n F h g key = ⟨r, F1 r, true, 0, putF F1 r (Fr.new key), (r + 1) % n, upd (upd g (F1 r).key none) key (some r)⟩ := by
    unfold takeR
    rw [hg, hf, if_neg (by simp), if_neg (by omega), if_pos hlo, hs]
    rfl
  rw [e]
  exact ⟨rfl, rfl, rfl, rfl, hF, hh, hgg⟩

/-! ### the takes ahead -/
def aF (k : Nat) : Nat → Fr := fun j => if j < k then Fr.new j else Fr.zero
def aG (k : Nat) : Int → Option Nat := fun x => if 0 ≤ x ∧ x < k then some x.toNat else none
theorem a_step {n k : Nat} (hk : k < n) : TakeIs n (takeR n (aF k) 0 (aG k) k) k Fr.zero false 0 (aF (k + 1)) 0 (aG (k + 1)) := by
  refine take_free (by simp [aG]) hk (by simp [aF, Fr.zero]) (fun i hi => by simp [aF, hi, Fr.new]) (fun i hi => ?_) (fun x => ?_)
  · unfold aF
    by_cases h1 : i = k
    · subst h1; simp
    · rw [if_neg h1]
      by_cases h2 : i < k
      · rw [if_pos h2, if_pos (by omega)]
      · rw [if_neg h2, if_neg (by omega)]
  · unfold aG
    by_cases h1 : x = k
    · subst h1
      rw [if_pos rfl, if_pos (by omega)]
      simp
    · rw [if_neg h1]
      by_cases h2 : 0 ≤ x ∧ x < k
      · rw [if_pos h2, if_pos (by omega)]
      · rw [if_neg h2, if_neg (by omega)]

/-! ### the first that is given up -/
/-- Frames of which those below k have been cleared. -/
def mF (k : Nat) : Nat → Fr := fun j => ⟨j, true, decide (k ≤ j), false, 0⟩
theorem m_clr (k : Nat) : clr (mF k) k = mF (k + 1) := by
  funext j
  unfold clr mF
  by_cases h : j = k
  · subst h; simp
  · rw [if_neg h]; simp only [Fr.mk.injEq, true_and, and_true]; rw [decide_eq_decide]; omega
theorem m_sweep (n d : Nat) (hn : 0 < n) : ∀ m k, k + m = n → 0 < m → sw n (d + m) k (mF k) = sw n d 0 (mF n)
  | 0, k, _, h => by omega
  | m + 1, k, hk, _ => by
    have e : sw n (d + (m + 1)) k (mF k) = sw n (d + m) ((k + 1) % n) (mF (k + 1)) := by
      rw [show d + (m + 1) = (d + m) + 1 by omega, sw_clr (by simp [mF]) (by simp [mF]), m_clr]
    rw [e]
    rcases Nat.eq_zero_or_pos m with h0 | hp
    · subst h0
      have : k + 1 = n := by omega
      rw [this, Nat.mod_self]; rfl
    · rw [Nat.mod_eq_of_lt (by omega)]
      exact m_sweep n d hn m (k + 1) (by omega) hp
theorem sw_congr (n : Nat) (hn : 0 < n) : ∀ d k F F', k < n → (∀ i, i < n → F i = F' i) → (sw n d k F).1 = (sw n d k F').1 ∧ ∀ i, i < n → (sw n d k F).2 i = (sw n d k F').2 i
  | 0, k, F, F', hk, h => ⟨rfl, h⟩
  | d + 1, k, F, F', hk, h => by
    unfold sw
    rw [h k hk]
    split
    · exact sw_congr n hn d _ F F' (Nat.mod_lt _ hn) h
    · split
      · exact sw_congr n hn d _ _ _ (Nat.mod_lt _ hn) (fun i hi => by unfold clr; rw [h i hi])
      · exact ⟨rfl, h⟩
theorem m_first (n : Nat) (hn : 0 < n) : sw n (2 * n + 1) 0 (mF 0) = (0, mF n) := by
  rw [show 2 * n + 1 = (n + 1) + n by omega, m_sweep n (n + 1) hn n 0 (by omega) hn, sw_found (by simp [mF]) (by simp [mF]; omega)]
  rfl

/-- The pool ahead of the i-th of the others. -/
def tF (keep i : Nat) : Nat → Fr := fun j =>
  if j = 0 then Fr.new 100 else if j = keep then ⟨j, true, decide (i ≤ keep + 1), false, 0⟩ else if j < i then Fr.new (200 + j) else ⟨j, true, false, false, 0⟩
def tH (n keep i : Nat) : Nat := if 0 < keep ∧ i = keep + 1 then keep else i % n
def tG (n keep i : Nat) : Int → Option Nat := fun x =>
  if x = 100 then some 0 else if 0 < x ∧ x < n then (if x = keep ∨ (i : Int) ≤ x then some x.toNat else none)
  else if 200 < x ∧ x < 200 + i ∧ x ≠ 200 + keep then some (x - 200).toNat else none

/-- The frames behind the first that is given up, ahead of the touch. -/
def uF : Nat → Fr := fun j => if j = 0 then Fr.new 100 else ⟨j, true, false, false, 0⟩
def uG (n : Nat) : Int → Option Nat := fun x => if x = 100 then some 0 else if 0 < x ∧ x < n then some x.toNat else none
theorem u_step {n : Nat} (h2 : 2 ≤ n) (h64 : n ≤ 64) : ∃ out, TakeIs n (takeR n (aF n) 0 (aG n) 100) 0 out true 0 uF 1 (uG n) := by
  obtain ⟨e1, e2⟩ := sw_congr n (by omega) (2 * n + 1) 0 (aF n) (mF 0) (by omega) (fun i hi => by simp [aF, hi, mF, Fr.new])
  rw [m_first n (by omega)] at e1 e2
  have hs : sw n (2 * n + 1) 0 (aF n) = (((0 : Nat) : Int), (sw n (2 * n + 1) 0 (aF n)).2) := by
    rw [← show (sw n (2 * n + 1) 0 (aF n)).1 = ((0 : Nat) : Int) from e1]
  have h0 := e2 0 (by omega)
  simp only at h0
  refine ⟨_, take_give (r := 0) (by simp [aG]; omega) (fun i hi => by simp [aF, hi, Fr.new]) ⟨0, by omega, by simp [aF, Fr.new, show 0 < n by omega]⟩ hs (by rw [Nat.mod_eq_of_lt (by omega)]) (fun i hi => ?_) (fun x => ?_)⟩
  · unfold uF
    by_cases h : i = 0
    · rw [if_pos h, if_pos h]
    · rw [if_neg h, if_neg h, e2 i hi]
      simp [mF]; omega
  · rw [h0]
    unfold uG aG mF
    simp only
    by_cases h1 : x = 100
    · rw [if_pos h1, if_pos h1]
    · rw [if_neg h1, if_neg h1]
      by_cases h2 : x = ((0 : Nat) : Int)
      · rw [if_pos h2, if_neg (by omega)]
      · rw [if_neg h2]
        by_cases h3 : 0 ≤ x ∧ x < n
        · rw [if_pos h3, if_pos (by omega)]
        · rw [if_neg h3, if_neg (by omega)]
theorem u_first {n keep : Nat} (h2 : 2 ≤ n) (hk : keep < n) : (∀ i, i < n → (if 0 < keep then putF uF keep { uF keep with ref := true, dirty := (uF keep).dirty || false } else uF) i = tF keep 1 i) ∧ 1 = tH n keep 1 ∧ ∀ x, uG n x = tG n keep 1 x := by
  refine ⟨fun i hi => ?_, ?_, fun x => ?_⟩
  · unfold tF uF putF
    by_cases h0 : 0 < keep
    · rw [if_pos h0]
      by_cases h1 : i = keep
      · subst h1
        rw [if_pos rfl, if_neg (by omega), if_neg (by omega), if_pos rfl]
        simp
      · rw [if_neg h1]
        dsimp only
        by_cases h3 : i = 0
        · rw [if_pos h3, if_pos h3]
        · rw [if_neg h3, if_neg h3, if_neg h1, if_neg (by omega)]
    · rw [if_neg h0]
      by_cases h3 : i = 0
      · rw [if_pos h3, if_pos h3]
      · rw [if_neg h3, if_neg h3, if_neg (by omega), if_neg (by omega)]
  · unfold tH
    rw [if_neg (by omega), Nat.mod_eq_of_lt (by omega)]
  · unfold uG tG
    by_cases h1 : x = 100
    · rw [if_pos h1, if_pos h1]
    · rw [if_neg h1, if_neg h1]
      by_cases h3 : 0 < x ∧ x < n
      · rw [if_pos h3, if_pos h3, if_pos (by omega)]
      · rw [if_neg h3, if_neg h3, if_neg (by omega)]

theorem t_skip {n keep : Nat} (hk : keep < n) (h0 : 0 < keep) : (∀ i, i < n → tF keep keep i = tF keep (keep + 1) i) ∧ tH n keep keep = tH n keep (keep + 1) ∧ ∀ x, tG n keep keep x = tG n keep (keep + 1) x := by
  refine ⟨fun i hi => ?_, ?_, fun x => ?_⟩
  · unfold tF
    by_cases h1 : i = 0
    · rw [if_pos h1, if_pos h1]
    · rw [if_neg h1, if_neg h1]
      by_cases h2 : i = keep
      · rw [if_pos h2, if_pos h2]; simp
      · rw [if_neg h2, if_neg h2]
        by_cases h3 : i < keep
        · rw [if_pos h3, if_pos (by omega)]
        · rw [if_neg h3, if_neg (by omega)]
  · unfold tH
    rw [if_neg (by omega), if_pos (by omega), Nat.mod_eq_of_lt hk]
  · unfold tG
    by_cases h1 : x = 100
    · rw [if_pos h1, if_pos h1]
    · rw [if_neg h1, if_neg h1]
      by_cases h3 : 0 < x ∧ x < n
      · rw [if_pos h3, if_pos h3]
        by_cases h4 : x = keep ∨ (keep : Int) ≤ x
        · rw [if_pos h4, if_pos (by omega)]
        · rw [if_neg h4, if_neg (by omega)]
      · rw [if_neg h3, if_neg h3]
        by_cases h5 : 200 < x ∧ x < 200 + (keep : Int) ∧ x ≠ 200 + keep
        · rw [if_pos h5, if_pos (by omega)]
        · rw [if_neg h5, if_neg (by omega)]

theorem t_step {n keep i : Nat} (h2 : 2 ≤ n) (h64 : n ≤ 64) (hk : keep < n) (hi : 0 < i) (hin : i < n) (hne : i ≠ keep) :
    ∃ out : Fr, out.key = i ∧ TakeIs n (takeR n (tF keep i) (tH n keep i) (tG n keep i) (200 + i)) i out true 0 (tF keep (i + 1)) (tH n keep (i + 1)) (tG n keep (i + 1)) := by
  have found : ∀ d F, (F i).used = true → (F i).pins = 0 → (F i).ref = false → sw n (d + 1) i F = ((i : Int), F) := fun d F a b c => sw_found (by simp [a, b]) c
  have hFi : tF keep i i = ⟨i, true, false, false, 0⟩ := by unfold tF; rw [if_neg (by omega), if_neg hne, if_neg (by omega)]
  obtain ⟨F1, hs, hF1⟩ : ∃ F1, sw n (2 * n + 1) (tH n keep i) (tF keep i) = ((i : Int), F1) ∧ ∀ j, F1 j = if 0 < keep ∧ i = keep + 1 ∧ j = keep then ⟨keep, true, false, false, 0⟩ else tF keep i j := by
    by_cases hc : 0 < keep ∧ i = keep + 1
    · refine ⟨clr (tF keep i) keep, ?_, fun j => ?_⟩
      · unfold tH
        have hkk : tF keep i keep = ⟨keep, true, true, false, 0⟩ := by unfold tF; rw [if_neg (by omega), if_pos rfl]; simp; omega
        rw [if_pos hc, sw_clr (by rw [hkk]; rfl) (by rw [hkk]), show (keep + 1) % n = i by rw [← hc.2]; exact Nat.mod_eq_of_lt hin, show 2 * n = (2 * n - 1) + 1 by omega]
        have hci : clr (tF keep i) keep i = ⟨i, true, false, false, 0⟩ := by rw [clr_ne _ hne, hFi]
        exact found _ _ (by rw [hci]) (by rw [hci]) (by rw [hci])
      · unfold clr
        by_cases hj : j = keep
        · rw [if_pos hj, if_pos ⟨hc.1, hc.2, hj⟩, hj]
          unfold tF
          rw [if_neg (by omega), if_pos rfl]
        · rw [if_neg hj, if_neg (by omega)]
    · refine ⟨tF keep i, ?_, fun j => by rw [if_neg (by omega)]⟩
      unfold tH
      rw [if_neg hc, Nat.mod_eq_of_lt hin]
      exact found _ _ (by rw [hFi]) (by rw [hFi]) (by rw [hFi])
  have hF1i : F1 i = ⟨i, true, false, false, 0⟩ := by rw [hF1, if_neg (by omega), hFi]
  refine ⟨F1 i, by rw [hF1i], take_give (r := i) ?_ (fun j hj => ?_) ⟨i, hin, by rw [hFi]⟩ hs ?_ (fun j hj => ?_) (fun x => ?_)⟩
  · unfold tG
    rw [if_neg (by omega), if_neg (by omega), if_neg (by omega)]
  · unfold tF
    split
    · rfl
    · split
      · rfl
      · split <;> rfl
  · unfold tH
    rw [if_neg (by omega)]
  · unfold tF
    by_cases h1 : j = i
    · subst h1
      rw [if_pos rfl, if_neg (by omega), if_neg hne, if_pos (by omega)]
    · rw [if_neg h1, hF1]
      by_cases h3 : j = 0
      · subst h3
        rw [if_neg (by omega), if_pos rfl]
        unfold tF
        rw [if_pos rfl]
      · rw [if_neg h3]
        by_cases h4 : j = keep
        · subst h4
          rw [if_pos rfl]
          by_cases h5 : i = j + 1
          · rw [if_pos ⟨by omega, h5, rfl⟩]; simp; omega
          · rw [if_neg (by omega)]
            unfold tF
            rw [if_neg h3, if_pos rfl]
            simp only [Fr.mk.injEq, true_and, and_true]
            rw [decide_eq_decide]; omega
        · rw [if_neg h4, if_neg (by omega)]
          unfold tF
          rw [if_neg h3, if_neg h4]
          by_cases h5 : j < i
          · rw [if_pos h5, if_pos (by omega)]
          · rw [if_neg h5, if_neg (by omega)]
  · rw [hF1i]
    unfold tG
    simp only
    by_cases h0 : x = 200 + (i : Int)
    · rw [if_pos h0, if_neg (by omega), if_neg (by omega), if_pos (by omega)]
      congr 1; omega
    · rw [if_neg h0]
      by_cases h1 : x = (i : Int)
      · rw [if_pos h1, if_neg (by omega), if_pos (by omega), if_neg (by omega)]
      · rw [if_neg h1]
        by_cases h2 : x = 100
        · rw [if_pos h2, if_pos h2]
        · rw [if_neg h2, if_neg h2]
          by_cases h3 : 0 < x ∧ x < n
          · rw [if_pos h3, if_pos h3]
            by_cases h4 : x = keep ∨ (i : Int) ≤ x
            · rw [if_pos h4, if_pos (by omega)]
            · rw [if_neg h4, if_neg (by omega)]
          · rw [if_neg h3, if_neg h3]
            by_cases h5 : 200 < x ∧ x < 200 + (i : Int) ∧ x ≠ 200 + keep
            · rw [if_pos h5, if_pos (by omega)]
            · rw [if_neg h5, if_neg (by omega)]
end Go.Proofs.Ytmipngefpedfpaa
