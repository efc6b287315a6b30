/- radix: what a root tells, plainly; what Get, Set and Delete do to it. -/
import Derived.Test.YtgkdggidgaifhaaOh
import Derived.Test.YtgkdggidgaifhaaPa
namespace Go.Proofs.Ytgkdggidgaifhaa
open Go.RowKit
set_option linter.unusedVariables false
set_option linter.unusedSimpArgs false

/-! ### digits -/
theorem front_succ (k : Nat) {l : Nat} (h : l ≤ 5) : frontN k (l + 1) = frontN k l * 16 + digN k l := by
  unfold frontN digN
  have : (16 : Nat) ^ (6 - l) = 16 ^ (5 - l) * 16 := by rw [← Nat.pow_succ]; congr 1; omega
  rw [this, ← Nat.div_div_eq_div_mul, show 6 - (l + 1) = 5 - l by omega]
  have := Nat.div_add_mod (k / 16 ^ (5 - l)) 16
  omega
theorem front_digit {k l p i : Nat} (h : l ≤ 5) (hi : i < 16) (hf : frontN k (l + 1) = p * 16 + i) : frontN k l = p ∧ digN k l = i := by
  have h1 := front_succ k h
  have h2 := digN_lt k l
  omega
theorem front_eq_le {a b l l' : Nat} (h : l ≤ l') (h' : l' ≤ 6) (he : frontN a l' = frontN b l') : frontN a l = frontN b l := by
  rw [pack_front h h', pack_front h h', he]
theorem fork_ge {a b l : Nat} (ha : a < 16777216) (hb : b < 16777216) (hne : a ≠ b) (hl : l ≤ 5) (hf : frontN a l = frontN b l) : l ≤ forkN a b := by
  have h1 := fork_ne ha hb hne
  have h2 := forkN_le a b
  rcases Nat.lt_or_ge (forkN a b) l with h | h
  · exfalso
    have h3 : frontN a (forkN a b + 1) = frontN b (forkN a b + 1) := front_eq_le h (by omega) hf
    rw [front_succ _ h2, front_succ _ h2, h1.2] at h3
    exact h1.1 (by omega)
  · exact h
theorem front6 (k : Nat) : frontN k 6 = k := by simp [frontN]
theorem front0 {k : Nat} (h : k < 16777216) : frontN k 0 = 0 := by unfold frontN; exact Nat.div_eq_of_lt (by simpa using h)
theorem front_some {x : RN} (h : x.level ≤ 5) : frontN x.some x.level = x.prefix_ := by
  unfold RN.some frontN
  rw [if_neg (by omega)]
  exact Nat.mul_div_cancel _ (Nat.pow_pos (by omega))
theorem some_lt {x : RN} (h : x.Ok) : x.some < 16777216 := by
  unfold RN.some
  split
  · rename_i h6; exact h.ky h6
  · rename_i h6
    have hl := h.lv
    have hp := h.pr (by omega)
    have e : (16777216 : Nat) = 16 ^ x.level * 16 ^ (6 - x.level) := by rw [← Nat.pow_add, show x.level + (6 - x.level) = 6 by omega]
    rw [e]
    exact Nat.mul_lt_mul_of_pos_right hp (Nat.pow_pos (by omega))
theorem front_lt_of {k l p : Nat} (hl : l ≤ 6) (hp : p < 16 ^ l) (h : frontN k l = p) : k < 16777216 := by
  unfold frontN at h
  have h1 : k / 16 ^ (6 - l) < 16 ^ l := by omega
  rw [Nat.div_lt_iff_lt_mul (Nat.pow_pos (by omega)), ← Nat.pow_add, show l + (6 - l) = 6 by omega] at h1
  simpa using h1
theorem under_iff {x : RN} {l q : Nat} : x.underB l q = true ↔ l ≤ x.level ∧ frontN x.some l = q := by unfold RN.underB; simp
/-- A key that begins as a node's keys do. -/
theorem front_under {x : RN} (hx : x.Ok) (h5 : x.level ≤ 5) {l q k : Nat} (hu : x.underB l q = true) (hk : frontN k x.level = x.prefix_) : frontN k l = q ∧ k < 16777216 := by
  obtain ⟨h1, h2⟩ := under_iff.1 hu
  refine ⟨?_, front_lt_of (by omega) (hx.pr h5) hk⟩
  rw [← h2]
  exact front_eq_le h1 (by omega) (by rw [hk, front_some h5])
theorem key_of (p i : Nat) (l : Nat) (hl : l ≤ 5) (hi : i < 16) : frontN ((p * 16 + i) * 16 ^ (5 - l)) l = p ∧ digN ((p * 16 + i) * 16 ^ (5 - l)) l = i := by
  refine front_digit hl hi ?_
  unfold frontN
  rw [show 6 - (l + 1) = 5 - l by omega]
  exact Nat.mul_div_cancel _ (Nat.pow_pos (by omega))

/-! ### what a root tells -/
abbrev Rdr := Int × Int → Option Bytes
def SubR (a b : Rdr) : Prop := ∀ r L, a r = some L → b r = some L
theorem SubR.refl (a : Rdr) : SubR a a := fun _ _ h => h
theorem SubR.trans {a b c : Rdr} (h : SubR a b) (k : SubR b c) : SubR a c := fun r L e => k r L (h r L e)
abbrev Mp := Nat → Option Bytes
inductive Tells (rd : Rdr) : Nat → Nat → Int × Int → Mp → Prop
  | lone {l q : Nat} {r : Int × Int} {b : Bytes} {x : RN} {m : Mp} (h0 : r ≠ (0, 0)) (hr : rd r = some b) (hp : parseB b = some x) (hu : x.underB l q = true) (hl : x.level = 6)
      (hm : ∀ k, m k = if k = x.key then some x.val else none) : Tells rd l q r m
  | leaf {l q : Nat} {r : Int × Int} {b : Bytes} {x : RN} {m : Mp} (h0 : r ≠ (0, 0)) (hr : rd r = some b) (hp : parseB b = some x) (hu : x.underB l q = true) (hl : x.level = 5) (hne : ∃ i, i < 16 ∧ x.has i = true)
      (hm : ∀ k, m k = if frontN k 5 = x.prefix_ ∧ x.has (digN k 5) = true then some (x.vals (digN k 5)) else none) : Tells rd l q r m
  | fork {l q : Nat} {r : Int × Int} {b : Bytes} {x : RN} {m : Mp} (h0 : r ≠ (0, 0)) (hr : rd r = some b) (hp : parseB b = some x) (hu : x.underB l q = true) (hl : x.level < 5) (hne : ∃ i, i < 16 ∧ x.has i = true)
      (ms : Nat → Mp) (hk : ∀ i, i < 16 → x.has i = true → Tells rd (x.level + 1) (x.prefix_ * 16 + i) (x.kids i) (ms i))
      (hm : ∀ k, m k = if frontN k x.level = x.prefix_ ∧ x.has (digN k x.level) = true then ms (digN k x.level) k else none) : Tells rd l q r m
theorem Tells.ne0 {rd : Rdr} {l q : Nat} {r : Int × Int} {m : Mp} (h : Tells rd l q r m) : r ≠ (0, 0) := by cases h <;> assumption
theorem Tells.mono {rd rd' : Rdr} {l q : Nat} {r : Int × Int} {m : Mp} (h : Tells rd l q r m) (hs : SubR rd rd') : Tells rd' l q r m := by
  induction h with
  | lone h0 hr hp hu hl hm => exact .lone h0 (hs _ _ hr) hp hu hl hm
  | leaf h0 hr hp hu hl hne hm => exact .leaf h0 (hs _ _ hr) hp hu hl hne hm
  | fork h0 hr hp hu hl hne ms hk hm ih => exact .fork h0 (hs _ _ hr) hp hu hl hne ms ih hm
theorem Tells.to {rd : Rdr} {l q l' q' : Nat} {r : Int × Int} {m m' : Mp} (h : Tells rd l q r m) (hu' : ∀ x : RN, x.Ok → x.underB l q = true → x.underB l' q' = true) (hm' : ∀ k, m' k = m k) : Tells rd l' q' r m' := by
  cases h with
  | lone h0 hr hp hu hl hm => exact .lone h0 hr hp (hu' _ (parseB_ok hp) hu) hl (fun k => (hm' k).trans (hm k))
  | leaf h0 hr hp hu hl hne hm => exact .leaf h0 hr hp (hu' _ (parseB_ok hp) hu) hl hne (fun k => (hm' k).trans (hm k))
  | fork h0 hr hp hu hl hne ms hk hm => exact .fork h0 hr hp (hu' _ (parseB_ok hp) hu) hl hne ms hk (fun k => (hm' k).trans (hm k))
theorem under_lift {x : RN} {l q l' q' : Nat} (hx : x.Ok) (h : x.underB l q = true) (hl : l' ≤ l) (hq : q / 16 ^ (l - l') = q') : x.underB l' q' = true := by
  obtain ⟨h1, h2⟩ := under_iff.1 h
  have := hx.lv
  exact under_iff.2 ⟨by omega, by rw [pack_front hl (by omega), h2, hq]⟩
theorem Tells.key {rd : Rdr} {l q : Nat} {r : Int × Int} {m : Mp} (h : Tells rd l q r m) {k : Nat} (hk : m k ≠ none) : k < 16777216 ∧ frontN k l = q := by
  cases h with
  | @lone _ _ _ b x _ h0 hr hp hu hl hm =>
    rw [hm] at hk
    split at hk
    · rename_i e
      have ho := parseB_ok hp
      obtain ⟨h1, h2⟩ := under_iff.1 hu
      have e2 : x.some = x.key := by unfold RN.some; rw [if_pos hl]
      rw [e]
      exact ⟨ho.ky hl, by rw [← h2, e2]⟩
    · exact absurd rfl hk
  | @leaf _ _ _ b x _ h0 hr hp hu hl hne hm =>
    rw [hm] at hk
    split at hk
    · rename_i e
      have := front_under (parseB_ok hp) (by omega) hu (k := k) (by rw [hl]; exact e.1)
      exact ⟨this.2, this.1⟩
    · exact absurd rfl hk
  | @fork _ _ _ b x _ h0 hr hp hu hl hne ms hkk hm =>
    rw [hm] at hk
    split at hk
    · rename_i e
      have := front_under (parseB_ok hp) (by omega) hu (k := k) e.1
      exact ⟨this.2, this.1⟩
    · exact absurd rfl hk
theorem Tells.non {rd : Rdr} {l q : Nat} {r : Int × Int} {m : Mp} (h : Tells rd l q r m) {k : Nat} (hk : frontN k l ≠ q) : m k = none := by
  cases e : m k with
  | none => rfl
  | some v => exact absurd (h.key (k := k) (by rw [e]; simp)).2 hk
theorem Tells.ex {rd : Rdr} {l q : Nat} {r : Int × Int} {m : Mp} (h : Tells rd l q r m) : ∃ k, m k ≠ none := by
  induction h with
  | @lone l q r b x m h0 hr hp hu hl hm => exact ⟨x.key, by rw [hm, if_pos rfl]; simp⟩
  | @leaf l q r b x m h0 hr hp hu hl hne hm =>
    obtain ⟨i, hi, hh⟩ := hne
    obtain ⟨h1, h2⟩ := key_of x.prefix_ i 5 (by omega) hi
    exact ⟨(x.prefix_ * 16 + i) * 16 ^ (5 - 5), by rw [hm, h1, h2, if_pos ⟨rfl, hh⟩]; simp⟩
  | @fork l q r b x m h0 hr hp hu hl hne ms hk hm ih =>
    obtain ⟨i, hi, hh⟩ := hne
    obtain ⟨k, h1⟩ := ih i hi hh
    obtain ⟨h2, h3⟩ := front_digit (by omega) hi ((hk i hi hh).key h1).2
    exact ⟨k, by rw [hm, h2, h3, if_pos ⟨rfl, hh⟩]; exact h1⟩
theorem Tells.fun_ {rd : Rdr} {l q : Nat} {r : Int × Int} {m : Mp} (h : Tells rd l q r m) : ∀ {l' q' : Nat} {m' : Mp}, Tells rd l' q' r m' → ∀ k, m k = m' k := by
  induction h with
  | @lone l q r b x m h0 hr hp hu hl hm =>
    intro l' q' m' h' k
    cases h' with
    | lone h0' hr' hp' hu' hl' hm' =>
      rw [hr] at hr'; cases hr'; rw [hp] at hp'; cases hp'
      rw [hm, hm']
    | leaf h0' hr' hp' hu' hl' hne' hm' => rw [hr] at hr'; cases hr'; rw [hp] at hp'; cases hp'; omega
    | fork h0' hr' hp' hu' hl' hne' ms' hk' hm' => rw [hr] at hr'; cases hr'; rw [hp] at hp'; cases hp'; omega
  | @leaf l q r b x m h0 hr hp hu hl hne hm =>
    intro l' q' m' h' k
    cases h' with
    | lone h0' hr' hp' hu' hl' hm' => rw [hr] at hr'; cases hr'; rw [hp] at hp'; cases hp'; omega
    | leaf h0' hr' hp' hu' hl' hne' hm' =>
      rw [hr] at hr'; cases hr'; rw [hp] at hp'; cases hp'
      rw [hm, hm']
    | fork h0' hr' hp' hu' hl' hne' ms' hk' hm' => rw [hr] at hr'; cases hr'; rw [hp] at hp'; cases hp'; omega
  | @fork l q r b x m h0 hr hp hu hl hne ms hk hm ih =>
    intro l' q' m' h' k
    cases h' with
    | lone h0' hr' hp' hu' hl' hm' => rw [hr] at hr'; cases hr'; rw [hp] at hp'; cases hp'; omega
    | leaf h0' hr' hp' hu' hl' hne' hm' => rw [hr] at hr'; cases hr'; rw [hp] at hp'; cases hp'; omega
    | fork h0' hr' hp' hu' hl' hne' ms' hk' hm' =>
      rw [hr] at hr'; cases hr'; rw [hp] at hp'; cases hp'
      rw [hm, hm']
      split
      · rename_i e
        exact ih _ (digN_lt _ _) e.2 (hk' _ (digN_lt _ _) e.2) k
      · rfl
/-- A root tells a map. -/
def TellsR (rd : Rdr) (r : Int × Int) (m : Mp) : Prop := (r = (0, 0) ∧ ∀ k, m k = none) ∨ Tells rd 0 0 r m
/-- Below a place. -/
def TellsK (rd : Rdr) (l q : Nat) (r : Int × Int) (m : Mp) : Prop := (r = (0, 0) ∧ ∀ k, m k = none) ∨ Tells rd l q r m
theorem TellsK.mono {rd rd' : Rdr} {l q : Nat} {r : Int × Int} {m : Mp} (h : TellsK rd l q r m) (hs : SubR rd rd') : TellsK rd' l q r m := h.imp id (·.mono hs)
theorem TellsK.fun_ {rd : Rdr} {l q l' q' : Nat} {r : Int × Int} {m m' : Mp} (h : TellsK rd l q r m) (h' : TellsK rd l' q' r m') : ∀ k, m k = m' k := by
  rcases h with ⟨e, h⟩ | h
  · rcases h' with ⟨e', h'⟩ | h'
    · exact fun k => (h k).trans (h' k).symm
    · exact absurd e h'.ne0
  · rcases h' with ⟨e', h'⟩ | h'
    · exact absurd e' h.ne0
    · exact h.fun_ h'
theorem TellsK.cast {rd : Rdr} {l q : Nat} {r : Int × Int} {m m' : Mp} (h : TellsK rd l q r m) (e : ∀ k, m' k = m k) : TellsK rd l q r m' :=
  h.imp (fun h => ⟨h.1, fun k => (e k).trans (h.2 k)⟩) (fun h => h.to (fun _ _ => id) e)

/-! ### nodes that were put -/
section
variable {rd : Rdr} {l q : Nat} {r : Int × Int} {m : Mp} {x : RN}
theorem sim_under {y : RN} (hs : Sim x y) (hx : x.Ok) (hu : x.underB l q = true) : y.underB l q = true := by
  obtain ⟨h1, h2⟩ := under_iff.1 hu
  exact under_iff.2 ⟨by rw [hs.level]; exact h1, by rw [hs.some hx.lv]; exact h2⟩
theorem Tells.putLone (hx : x.Ok) (hl : x.level = 6) (h0 : r ≠ (0, 0)) (hr : rd r = some (nodeB x)) (hu : x.underB l q = true) (hm : ∀ k, m k = if k = x.key then some x.val else none) : Tells rd l q r m := by
  obtain ⟨y, hy, hs⟩ := parse_node hx (fun h => by omega)
  obtain ⟨e1, e2⟩ := hs.ky hl
  exact .lone h0 hr hy (sim_under hs hx hu) (by rw [hs.level, hl]) (fun k => by rw [hm, e1, e2])
theorem Tells.putLeaf (hx : x.Ok) (hl : x.level = 5) (hne : ∃ i, i < 16 ∧ x.has i = true) (h0 : r ≠ (0, 0)) (hr : rd r = some (nodeB x)) (hu : x.underB l q = true)
    (hm : ∀ k, m k = if frontN k 5 = x.prefix_ ∧ x.has (digN k 5) = true then some (x.vals (digN k 5)) else none) : Tells rd l q r m := by
  obtain ⟨y, hy, hs⟩ := parse_node hx (fun _ => hne)
  obtain ⟨i, hi, hh⟩ := hne
  refine .leaf h0 hr hy (sim_under hs hx hu) (by rw [hs.level, hl]) ⟨i, hi, by rw [hs.has (by omega) i hi]; exact hh⟩ (fun k => ?_)
  rw [hm, hs.pr (by omega), hs.has (by omega) _ (digN_lt _ _)]
  by_cases h : frontN k 5 = x.prefix_ ∧ x.has (digN k 5) = true
  · rw [if_pos h, if_pos h, hs.vs hl _ (digN_lt _ _) h.2]
  · rw [if_neg h, if_neg h]
theorem Tells.putFork (hx : x.Ok) (hl : x.level < 5) (hne : ∃ i, i < 16 ∧ x.has i = true) (h0 : r ≠ (0, 0)) (hr : rd r = some (nodeB x)) (hu : x.underB l q = true)
    (ms : Nat → Mp) (hk : ∀ i, i < 16 → x.has i = true → Tells rd (x.level + 1) (x.prefix_ * 16 + i) (x.kids i) (ms i))
    (hm : ∀ k, m k = if frontN k x.level = x.prefix_ ∧ x.has (digN k x.level) = true then ms (digN k x.level) k else none) : Tells rd l q r m := by
  obtain ⟨y, hy, hs⟩ := parse_node hx (fun _ => hne)
  obtain ⟨i, hi, hh⟩ := hne
  have hp := hs.pr (by omega)
  have hhas := hs.has (by omega)
  refine .fork h0 hr hy (sim_under hs hx hu) (by rw [hs.level]; exact hl) ⟨i, hi, by rw [hhas i hi]; exact hh⟩ ms (fun i hi hh => ?_) (fun k => ?_)
  · rw [hhas i hi] at hh
    rw [hs.level, hp, hs.kd hl i hi hh]
    exact hk i hi hh
  · rw [hm, hs.level, hp, hhas _ (digN_lt _ _)]
end
end Go.Proofs.Ytgkdggidgaifhaa
