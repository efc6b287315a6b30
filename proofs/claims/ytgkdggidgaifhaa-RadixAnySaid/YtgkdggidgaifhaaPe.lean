/- radix: a walk over what a root tells goes over its pairs, rising. -/
import Derived.Test.YtgkdggidgaifhaaPd
import Derived.Test.YtgkdggidgaifhaaOl
namespace Go.Proofs.Ytgkdggidgaifhaa
open Go.RowKit
set_option linter.unusedVariables false
set_option linter.unusedSimpArgs false

abbrev Ps := List (Nat × Bytes)
def foldU {α : Type} (f : α → Nat → Bytes → α × Bool) : α → Ps → α × Bool
  | a, [] => (a, true)
  | a, (k, v) :: ps => if (f a k v).2 then foldU f (f a k v).1 ps else ((f a k v).1, false)
theorem foldU_append {α : Type} (f : α → Nat → Bytes → α × Bool) : ∀ (a : α) (ps qs : Ps), foldU f a (ps ++ qs) = if (foldU f a ps).2 then foldU f (foldU f a ps).1 qs else foldU f a ps
  | a, [], qs => by simp [foldU]
  | a, (k, v) :: ps, qs => by
    rw [List.cons_append]
    have ih := foldU_append f (f a k v).1 ps qs
    by_cases h : (f a k v).2 = true
    · have e1 : ∀ l, foldU f a ((k, v) :: l) = foldU f (f a k v).1 l := fun l => by show (if (f a k v).2 then foldU f (f a k v).1 l else ((f a k v).1, false)) = _; rw [if_pos h]
      rw [e1, e1]; exact ih
    · have e1 : ∀ l, foldU f a ((k, v) :: l) = ((f a k v).1, false) := fun l => by show (if (f a k v).2 then foldU f (f a k v).1 l else ((f a k v).1, false)) = _; rw [if_neg h]
      rw [e1, e1]; rfl
/-- A map's pairs, rising. -/
structure Lst (m : Mp) (ps : Ps) : Prop where
  up : ps.Pairwise (fun a b => a.1 < b.1)
  mem : ∀ k v, (k, v) ∈ ps ↔ m k = some v
def psL (x : RN) : Nat → Nat → Ps
  | 0, _ => []
  | m + 1, i => if x.has i then (x.prefix_ * 16 + i, x.vals i) :: psL x m (i + 1) else psL x m (i + 1)
theorem pairsL_eq {α : Type} (f : α → Nat → Bytes → α × Bool) (x : RN) (h : x.level = 5) : ∀ (m i : Nat) (a : α), pairsL f x m i a = foldU f a (psL x m i)
  | 0, i, a => rfl
  | m + 1, i, a => by
    unfold pairsL psL
    by_cases hh : x.has i = true
    · rw [if_pos ⟨hh, h⟩, if_pos hh]
      unfold foldU
      split
      · exact pairsL_eq f x h m _ _
      · rfl
    · rw [if_neg (fun e => hh e.1), if_neg hh]
      exact pairsL_eq f x h m _ _
theorem pairsL_skip {α : Type} (f : α → Nat → Bytes → α × Bool) (x : RN) (h : x.level ≠ 5) : ∀ (m i : Nat) (a : α), pairsL f x m i a = (a, true)
  | 0, i, a => rfl
  | m + 1, i, a => by
    unfold pairsL
    rw [if_neg (fun e => h e.2)]
    exact pairsL_skip f x h m _ _
theorem kidsF_skip {σ α : Type} (W : WkSt σ α → Int × Int → Nat → Nat → WkSt σ α × Bool × Int) (x : RN) (h : 5 ≤ x.level) : ∀ (m i : Nat) (st : WkSt σ α), kidsF W x m i st = (st, true, 0)
  | 0, i, st => rfl
  | m + 1, i, st => by
    unfold kidsF
    rw [if_pos (.inr h)]
    exact kidsF_skip W x h m _ _
theorem psL_mem (x : RN) : ∀ (m i : Nat) (k : Nat) (v : Bytes), (k, v) ∈ psL x m i ↔ ∃ j, i ≤ j ∧ j < i + m ∧ x.has j = true ∧ k = x.prefix_ * 16 + j ∧ v = x.vals j
  | 0, i, k, v => by simp [psL]; intro j h1 h2; omega
  | m + 1, i, k, v => by
    have ih := psL_mem x m (i + 1) k v
    unfold psL
    by_cases hh : x.has i = true
    · rw [if_pos hh, List.mem_cons, ih]
      constructor
      · rintro (e | ⟨j, h1, h2, h3⟩)
        · cases e; exact ⟨i, Nat.le_refl _, by omega, hh, rfl, rfl⟩
        · exact ⟨j, by omega, by omega, h3⟩
      · rintro ⟨j, h1, h2, h3, h4, h5⟩
        by_cases e : j = i
        · subst e; exact .inl (by rw [h4, h5])
        · exact .inr ⟨j, by omega, by omega, h3, h4, h5⟩
    · rw [if_neg hh, ih]
      constructor
      · rintro ⟨j, h1, h2, h3⟩; exact ⟨j, by omega, by omega, h3⟩
      · rintro ⟨j, h1, h2, h3, h4⟩
        by_cases e : j = i
        · subst e; exact absurd h3 hh
        · exact ⟨j, by omega, by omega, h3, h4⟩
theorem psL_up (x : RN) : ∀ (m i : Nat), (psL x m i).Pairwise (fun a b => a.1 < b.1)
  | 0, i => .nil
  | m + 1, i => by
    have ih := psL_up x m (i + 1)
    unfold psL
    split
    · refine List.pairwise_cons.2 ⟨fun b hb => ?_, ih⟩
      obtain ⟨k, v⟩ := b
      obtain ⟨j, h1, h2, h3, h4, h5⟩ := (psL_mem x m (i + 1) k v).1 hb
      show x.prefix_ * 16 + i < k
      omega
    · exact ih
def psK (pss : Nat → Ps × Nat) (x : RN) : Nat → Nat → Ps
  | 0, _ => []
  | m + 1, i => if x.has i then (pss i).1 ++ psK pss x m (i + 1) else psK pss x m (i + 1)
def cK (pss : Nat → Ps × Nat) (x : RN) : Nat → Nat → Nat
  | 0, _ => 0
  | m + 1, i => if x.has i then (pss i).2 + cK pss x m (i + 1) else cK pss x m (i + 1)
theorem psK_mem (pss : Nat → Ps × Nat) (x : RN) : ∀ (m i : Nat) (kv : Nat × Bytes), kv ∈ psK pss x m i ↔ ∃ j, i ≤ j ∧ j < i + m ∧ x.has j = true ∧ kv ∈ (pss j).1
  | 0, i, kv => by simp [psK]; intro j h1 h2; omega
  | m + 1, i, kv => by
    have ih := psK_mem pss x m (i + 1) kv
    unfold psK
    by_cases hh : x.has i = true
    · rw [if_pos hh, List.mem_append, ih]
      constructor
      · rintro (e | ⟨j, h1, h2, h3⟩)
        · exact ⟨i, Nat.le_refl _, by omega, hh, e⟩
        · exact ⟨j, by omega, by omega, h3⟩
      · rintro ⟨j, h1, h2, h3, h4⟩
        by_cases e : j = i
        · subst e; exact .inl h4
        · exact .inr ⟨j, by omega, by omega, h3, h4⟩
    · rw [if_neg hh, ih]
      constructor
      · rintro ⟨j, h1, h2, h3⟩; exact ⟨j, by omega, by omega, h3⟩
      · rintro ⟨j, h1, h2, h3, h4⟩
        by_cases e : j = i
        · subst e; exact absurd h3 hh
        · exact ⟨j, by omega, by omega, h3, h4⟩
theorem front_lt_lt {a b l : Nat} (h : frontN a l < frontN b l) : a < b := by
  unfold frontN at h
  rcases Nat.lt_or_ge a b with g | g
  · exact g
  · have := Nat.div_le_div_right (c := 16 ^ (6 - l)) g
    omega
theorem psK_up (pss : Nat → Ps × Nat) (x : RN) (l : Nat) (hf : ∀ i, i < 16 → x.has i = true → ∀ kv ∈ (pss i).1, frontN kv.1 l = x.prefix_ * 16 + i) (hu : ∀ i, i < 16 → x.has i = true → (pss i).1.Pairwise (fun a b => a.1 < b.1)) :
    ∀ (m i : Nat), i + m ≤ 16 → (psK pss x m i).Pairwise (fun a b => a.1 < b.1)
  | 0, i, _ => .nil
  | m + 1, i, h => by
    have ih := psK_up pss x l hf hu m (i + 1) (by omega)
    unfold psK
    by_cases hh : x.has i = true
    · rw [if_pos hh]
      refine List.pairwise_append.2 ⟨hu i (by omega) hh, ih, fun a ha b hb => ?_⟩
      obtain ⟨j, h1, h2, h3, h4⟩ := (psK_mem pss x m (i + 1) b).1 hb
      refine front_lt_lt (l := l) ?_
      rw [hf i (by omega) hh a ha, hf j (by omega) h3 b h4]
      omega
    · rw [if_neg hh]
      exact ih
theorem cK_le (pss : Nat → Ps × Nat) (x : RN) (d : Nat) (hc : ∀ i, i < 16 → x.has i = true → (pss i).2 ≤ d * (pss i).1.length) : ∀ (m i : Nat), i + m ≤ 16 → cK pss x m i ≤ d * (psK pss x m i).length
  | 0, i, _ => by simp [cK]
  | m + 1, i, h => by
    have ih := cK_le pss x d hc m (i + 1) (by omega)
    unfold cK psK
    by_cases hh : x.has i = true
    · rw [if_pos hh, if_pos hh, List.length_append, Nat.mul_add]
      have := hc i (by omega) hh
      omega
    · rw [if_neg hh, if_neg hh]
      exact ih
section
variable {σ : Type} {K : SnkF σ} (P : PSnk K)
/-- Reads alone. -/
structure Like (s s' : σ) : Prop where
  inn : P.In s'
  rd : P.rd s' = P.rd s
  cnt : P.cnt s' = P.cnt s
  room : P.room s' = P.room s
variable {P}
theorem Like.refl {s : σ} (h : P.In s) : Like P s s := ⟨h, rfl, rfl, rfl⟩
theorem Like.trans {s s1 s2 : σ} (h : Like P s s1) (k : Like P s1 s2) : Like P s s2 := ⟨k.inn, k.rd.trans h.rd, k.cnt.trans h.cnt, k.room.trans h.room⟩
theorem Like.aft {s s1 : σ} (h : Like P s s1) (p : Int) : Aft P 0 (s, p) (s1, p) := ⟨h.inn, by rw [h.rd]; exact SubR.refl _, h.cnt, rfl, by show P.room s1 = _; rw [h.room]; split <;> simp, by simp⟩
variable (P)
structure WalkIs (rd : Rdr) (l q : Nat) (r : Int × Int) (m : Mp) (ps : Ps) (c : Nat) : Prop where
  lst : Lst m ps
  ne : ps ≠ []
  le : c ≤ (7 - l) * ps.length
  go : ∀ {α : Type} (f : α → Nat → Bytes → α × Bool) (n : Nat) (s : σ) (left : Int) (a : α), 7 ≤ n + l → P.In s → P.rd s = rd → (c : Int) ≤ left → ∃ s' left', walkF K (pairsC f) n (s, left, a) r l q = ((s', left', (foldU f a ps).1), (foldU f a ps).2, 0) ∧ Like P s s' ∧ ((foldU f a ps).2 = true → left' = left - c)
theorem kids_is {rd : Rdr} {x : RN} {ms : Nat → Mp} (pss : Nat → Ps × Nat) (hp : ∀ i, i < 16 → x.has i = true → WalkIs P rd (x.level + 1) (x.prefix_ * 16 + i) (x.kids i) (ms i) (pss i).1 (pss i).2) (hl : x.level < 5)
    {α : Type} (f : α → Nat → Bytes → α × Bool) (n : Nat) (hn : 7 ≤ n + (x.level + 1)) : ∀ (m i : Nat) (s : σ) (left : Int) (a : α), i + m ≤ 16 → P.In s → P.rd s = rd → (cK pss x m i : Int) ≤ left →
    ∃ s' left', kidsF (walkF K (pairsC f) n) x m i (s, left, a) = ((s', left', (foldU f a (psK pss x m i)).1), (foldU f a (psK pss x m i)).2, 0) ∧ Like P s s' ∧ ((foldU f a (psK pss x m i)).2 = true → left' = left - cK pss x m i)
  | 0, i, s, left, a, _, hs, he, _ => ⟨s, left, rfl, Like.refl hs, fun _ => by simp [cK]⟩
  | m + 1, i, s, left, a, him, hs, he, hle => by
    unfold kidsF psK cK at *
    by_cases hh : x.has i = true
    · rw [if_pos hh] at hle
      rw [if_neg (by rw [hh]; simp; omega), if_pos hh, if_pos hh]
      obtain ⟨s1, left1, h1, h2, h3⟩ := (hp i (by omega) hh).go f n s left a hn hs he (by omega)
      rw [h1]
      simp only [foldU_append]
      by_cases hb : (foldU f a (pss i).1).2 = true
      · rw [if_pos hb, if_pos hb]
        have h4 := h3 hb
        obtain ⟨s2, left2, h5, h6, h7⟩ := kids_is pss hp hl f n hn m (i + 1) s1 left1 (foldU f a (pss i).1).1 (by omega) h2.inn (h2.rd.trans he) (by omega)
        exact ⟨s2, left2, h5, h2.trans h6, fun e => by rw [h7 e]; omega⟩
      · rw [if_neg hb, if_neg hb]
        have hb2 : (foldU f a (pss i).1).2 = false := by simpa using hb
        exact ⟨s1, left1, by rw [hb2], h2, fun e => absurd e hb⟩
    · rw [if_neg hh] at hle
      rw [if_pos (.inl (by simpa using hh)), if_neg hh, if_neg hh]
      exact kids_is pss hp hl f n hn m (i + 1) s left a (by omega) hs he hle
theorem tget_like {s : σ} {r : Int × Int} {l q : Nat} {b : Bytes} {x : RN} (h : P.In s) (hr : P.rd s r = some b) (hp : parseB b = some x) (hu : x.underB l q = true) : ∃ s1, tgetF K s r l q = (s1, some x, 0) ∧ Like P s s1 := by
  obtain ⟨h1, h2, h3, h4, h5⟩ := P.get s r b h hr
  exact ⟨_, tget_is h hr hp hu, ⟨h2, h3, h4, h5⟩⟩
/-- A walk over what a root tells. -/
theorem walk_is {rd : Rdr} {l q : Nat} {r : Int × Int} {m : Mp} (h : Tells rd l q r m) : ∃ ps c, WalkIs P rd l q r m ps c := by
  induction h with
  | @lone l q r b x m h0 hr hp hu hl hm =>
    have hlu := under_iff.1 hu
    refine ⟨[(x.key, x.val)], 1, ⟨⟨List.pairwise_singleton _ _, fun k v => ?_⟩, by simp, by simp; omega, fun {α} f n s left a hn hs he hle => ?_⟩⟩
    · rw [hm, List.mem_singleton]
      by_cases e : k = x.key
      · rw [if_pos e, e]
        constructor
        · intro h; cases h; rfl
        · intro h; cases h; rfl
      · rw [if_neg e]
        constructor
        · intro h; cases h; exact absurd rfl e
        · intro h; cases h
    · obtain ⟨n, rfl⟩ : ∃ k, n = k + 1 := ⟨n - 1, by omega⟩
      obtain ⟨s1, h1, h2⟩ := tget_like P hs (by rw [he]; exact hr) hp hu
      unfold walkF
      rw [if_neg h0, if_neg (by omega), h1]
      simp only
      have e1 : pairsC f a r x = f a x.key x.val := by unfold pairsC; rw [if_pos hl]
      rw [e1]
      simp only [foldU]
      by_cases hb : (f a x.key x.val).2 = true
      · rw [if_neg (by simp [hb]), if_pos hb, kidsF_skip _ _ (by omega)]
        exact ⟨s1, left - 1, rfl, h2, fun _ => by simp⟩
      · rw [if_pos (by simpa using hb), if_neg hb]
        exact ⟨s1, left - 1, rfl, h2, fun e => by cases e⟩
  | @leaf l q r b x m h0 hr hp hu hl hne hm =>
    have hlu := under_iff.1 hu
    refine ⟨psL x 16 0, 1, ⟨⟨psL_up x 16 0, fun k v => ?_⟩, ?_, ?_, fun {α} f n s left a hn hs he hle => ?_⟩⟩
    · rw [hm, psL_mem]
      have hf := front_succ k (l := 5) (by omega)
      rw [front6] at hf
      have hd := digN_lt k 5
      constructor
      · rintro ⟨j, h1, h2, h3, h4, h5⟩
        have e1 : digN k 5 = j := by omega
        rw [if_pos ⟨by omega, by rw [e1]; exact h3⟩, e1, h5]
      · intro h
        split at h
        · rename_i e
          exact ⟨digN k 5, by omega, by omega, e.2, by omega, (Option.some.inj h).symm⟩
        · cases h
    · obtain ⟨i, hi, hh⟩ := hne
      intro e
      have := (psL_mem x 16 0 (x.prefix_ * 16 + i) (x.vals i)).2 ⟨i, by omega, by omega, hh, rfl, rfl⟩
      rw [e] at this
      cases this
    · have hpos : 0 < (psL x 16 0).length := by
        obtain ⟨i, hi, hh⟩ := hne
        exact List.length_pos_of_mem ((psL_mem x 16 0 (x.prefix_ * 16 + i) (x.vals i)).2 ⟨i, by omega, by omega, hh, rfl, rfl⟩)
      have h7 : 1 ≤ 7 - l := by omega
      exact Nat.le_trans (by omega) (Nat.mul_le_mul h7 hpos)
    · obtain ⟨n, rfl⟩ : ∃ k, n = k + 1 := ⟨n - 1, by omega⟩
      obtain ⟨s1, h1, h2⟩ := tget_like P hs (by rw [he]; exact hr) hp hu
      unfold walkF
      rw [if_neg h0, if_neg (by omega), h1]
      simp only
      have e1 : pairsC f a r x = foldU f a (psL x 16 0) := by unfold pairsC; rw [if_neg (by omega), pairsL_eq f x hl]
      rw [e1]
      by_cases hb : (foldU f a (psL x 16 0)).2 = true
      · rw [if_neg (by simp [hb]), kidsF_skip _ _ (by omega), hb]
        exact ⟨s1, left - 1, rfl, h2, fun _ => by simp⟩
      · have hb2 : (foldU f a (psL x 16 0)).2 = false := by simpa using hb
        rw [if_pos hb2, hb2]
        exact ⟨s1, left - 1, rfl, h2, fun e => by cases e⟩
  | @fork l q r b x m h0 hr hp hu hl hne ms hk hm ih =>
    have hlu := under_iff.1 hu
    obtain ⟨pss, hpss⟩ := Classical.axiomOfChoice (r := fun (i : Nat) (y : Ps × Nat) => i < 16 → x.has i = true → WalkIs P rd (x.level + 1) (x.prefix_ * 16 + i) (x.kids i) (ms i) y.1 y.2) (fun i => by
      by_cases hc : i < 16 ∧ x.has i = true
      · obtain ⟨ps, c, h⟩ := ih i hc.1 hc.2
        exact ⟨(ps, c), fun _ _ => h⟩
      · exact ⟨([], 0), fun h1 h2 => absurd ⟨h1, h2⟩ hc⟩)
    have hfr : ∀ i, i < 16 → x.has i = true → ∀ kv ∈ (pss i).1, frontN kv.1 (x.level + 1) = x.prefix_ * 16 + i := fun i hi hh kv hkv => by
      have h1 := ((hpss i hi hh).lst.mem kv.1 kv.2).1 hkv
      exact ((hk i hi hh).key (by rw [h1]; simp)).2
    have hup := psK_up pss x (x.level + 1) hfr (fun i hi hh => (hpss i hi hh).lst.up) 16 0 (by omega)
    have hpos : 0 < (psK pss x 16 0).length := by
      obtain ⟨i, hi, hh⟩ := hne
      obtain ⟨kv, hkv⟩ := List.exists_mem_of_ne_nil _ (hpss i hi hh).ne
      exact List.length_pos_of_mem ((psK_mem pss x 16 0 kv).2 ⟨i, by omega, by omega, hh, hkv⟩)
    refine ⟨psK pss x 16 0, cK pss x 16 0 + 1, ⟨⟨hup, fun k v => ?_⟩, fun e => by rw [e] at hpos; simp at hpos, ?_, fun {α} f n s left a hn hs he hle => ?_⟩⟩
    · rw [psK_mem, hm]
      constructor
      · rintro ⟨j, h1, h2, h3, h4⟩
        obtain ⟨g1, g2⟩ := front_digit (by omega) (by omega) (hfr j (by omega) h3 _ h4)
        rw [if_pos ⟨g1, by rw [g2]; exact h3⟩, g2]
        exact ((hpss j (by omega) h3).lst.mem k v).1 h4
      · intro h
        split at h
        · rename_i e
          have hd := digN_lt k x.level
          exact ⟨digN k x.level, by omega, by omega, e.2, ((hpss _ hd e.2).lst.mem k v).2 h⟩
        · cases h
    · have h1 := cK_le pss x (7 - (x.level + 1)) (fun i hi hh => (hpss i hi hh).le) 16 0 (by omega)
      have h2 : (7 - (x.level + 1)) * (psK pss x 16 0).length + (psK pss x 16 0).length = (7 - x.level) * (psK pss x 16 0).length := by
        rw [← Nat.succ_mul]; congr 1; omega
      have h3 : (7 - x.level) * (psK pss x 16 0).length ≤ (7 - l) * (psK pss x 16 0).length := Nat.mul_le_mul (by omega) (Nat.le_refl _)
      omega
    · obtain ⟨n, rfl⟩ : ∃ k, n = k + 1 := ⟨n - 1, by omega⟩
      obtain ⟨s1, h1, h2⟩ := tget_like P hs (by rw [he]; exact hr) hp hu
      unfold walkF
      rw [if_neg h0, if_neg (by omega), h1]
      simp only
      have e1 : pairsC f a r x = (a, true) := by unfold pairsC; rw [if_neg (by omega), pairsL_skip f x (by omega)]
      rw [e1]
      simp only [Bool.true_eq_false, if_false]
      obtain ⟨s2, left2, h5, h6, h7⟩ := kids_is P pss hpss hl f n (by omega) 16 0 s1 (left - 1) a (by omega) h2.inn (h2.rd.trans he) (by omega)
      exact ⟨s2, left2, h5, h2.trans h6, fun e => by rw [h7 e]; simp; omega⟩
end
end Go.Proofs.Ytgkdggidgaifhaa
