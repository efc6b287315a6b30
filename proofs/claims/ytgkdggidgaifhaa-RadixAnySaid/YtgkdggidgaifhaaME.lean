/- delta, plainly: the changes are the keys that differ, rising, once; how many they are. -/
import Derived.Test.YtgkdggidgaifhaaMA
import Derived.Test.YtgkdggidgaifhaaMB
namespace Go.Proofs.Ytgkdggidgaifhaa
open Go.RowKit
set_option linter.unusedVariables false
set_option linter.unusedSimpArgs false

def lk : List (Nat × Bytes) → Nat → Option Bytes
  | [], _ => none
  | x :: l, k => if k = x.1 then some x.2 else lk l k
abbrev Rise (l : List (Nat × Bytes)) : Prop := l.Pairwise fun a b => a.1 < b.1
theorem lk_none {k : Nat} : ∀ {l : List (Nat × Bytes)}, (∀ x ∈ l, x.1 ≠ k) → lk l k = none
  | [], _ => rfl
  | x :: l, h => by
    unfold lk
    rw [if_neg (fun e => h x (by simp) e.symm)]
    exact lk_none fun y hy => h y (List.mem_cons_of_mem _ hy)
theorem lk_mem {k : Nat} {v : Bytes} : ∀ {l : List (Nat × Bytes)}, Rise l → (lk l k = some v ↔ (k, v) ∈ l)
  | [], _ => by simp [lk]
  | x :: l, h => by
    obtain ⟨h1, h2⟩ := List.pairwise_cons.1 h
    have ih := lk_mem (k := k) (v := v) h2
    unfold lk
    by_cases e : k = x.1
    · rw [if_pos e]
      constructor
      · intro e2; cases e2; subst e; exact List.mem_cons_self
      · intro e2
        rcases List.mem_cons.1 e2 with e3 | e3
        · rw [← e3]
        · have := h1 _ e3; simp only at this; omega
    · rw [if_neg e, ih]
      constructor
      · exact List.mem_cons_of_mem _
      · intro e2
        rcases List.mem_cons.1 e2 with e3 | e3
        · exact absurd (by rw [← e3]) e
        · exact e3
theorem rise_gt {x : Nat × Bytes} {l : List (Nat × Bytes)} (h : Rise (x :: l)) {k : Nat} (hk : k ≤ x.1) : lk l k = none := lk_none fun y hy => by have := (List.pairwise_cons.1 h).1 y hy; omega
theorem rise_all {x : Nat × Bytes} {l : List (Nat × Bytes)} (h : Rise (x :: l)) {k : Nat} (hk : k < x.1) : lk (x :: l) k = none := lk_none fun y hy => by
  rcases List.mem_cons.1 hy with e | e
  · subst e; omega
  · have := (List.pairwise_cons.1 h).1 y e; omega
theorem lk_self {x : Nat × Bytes} {l : List (Nat × Bytes)} {k : Nat} (e : k = x.1) : lk (x :: l) k = some x.2 := by unfold lk; rw [if_pos e]
theorem lk_other {x : Nat × Bytes} {l : List (Nat × Bytes)} {k : Nat} (e : k ≠ x.1) : lk (x :: l) k = lk l k := by show (if k = x.1 then _ else _) = _; rw [if_neg e]
theorem merge_mem : ∀ (n : Nat) (l r : List (Nat × Bytes)), l.length + r.length ≤ n → Rise l → Rise r → ∀ (k : Nat) (o w : Option Bytes), (k, o, w) ∈ mergeN n l r ↔ o = lk l k ∧ w = lk r k ∧ lk l k ≠ lk r k
  | 0, l, r, h, _, _, k, o, w => by
    have h1 : l = [] := List.length_eq_zero_iff.1 (by omega)
    have h2 : r = [] := List.length_eq_zero_iff.1 (by omega)
    subst h1 h2
    simp [mergeN, lk]
  | n + 1, [], [], h, _, _, k, o, w => by simp [mergeN, lk]
  | n + 1, x :: l, [], h, hl, hr, k, o, w => by
    have ih := merge_mem n l [] (by simp at h ⊢; omega) (List.pairwise_cons.1 hl).2 hr k o w
    show (k, o, w) ∈ (x.1, some x.2, none) :: mergeN n l [] ↔ _
    rw [List.mem_cons, ih]
    by_cases e : k = x.1
    · rw [lk_self e, rise_gt hl (by omega)]
      subst e
      simp [lk]
    · rw [lk_other e]
      constructor
      · rintro (e2 | e2)
        · exact absurd (by injection e2) e
        · exact e2
      · exact .inr
  | n + 1, [], y :: r, h, hl, hr, k, o, w => by
    have ih := merge_mem n [] r (by simp at h ⊢; omega) hl (List.pairwise_cons.1 hr).2 k o w
    show (k, o, w) ∈ (y.1, none, some y.2) :: mergeN n [] r ↔ _
    rw [List.mem_cons, ih]
    by_cases e : k = y.1
    · rw [lk_self e, rise_gt hr (by omega)]
      subst e
      simp [lk]
    · rw [lk_other e]
      constructor
      · rintro (e2 | e2)
        · exact absurd (by injection e2) e
        · exact e2
      · exact .inr
  | n + 1, x :: l, y :: r, h, hl, hr, k, o, w => by
    have h1 := merge_mem n l (y :: r) (by simp at h ⊢; omega) (List.pairwise_cons.1 hl).2 hr k o w
    have h2 := merge_mem n (x :: l) r (by simp at h ⊢; omega) hl (List.pairwise_cons.1 hr).2 k o w
    have h3 := merge_mem n l r (by simp at h ⊢; omega) (List.pairwise_cons.1 hl).2 (List.pairwise_cons.1 hr).2 k o w
    unfold mergeN
    split
    · rename_i hlt
      rw [List.mem_cons, h1]
      by_cases e : k = x.1
      · rw [lk_self e, rise_gt hl (by omega), rise_all hr (k := k) (by omega)]
        subst e
        simp
      · rw [lk_other (x := x) e]
        constructor
        · rintro (e2 | e2)
          · exact absurd (by injection e2) e
          · exact e2
        · exact .inr
    · split
      · rename_i _ hlt
        rw [List.mem_cons, h2]
        by_cases e : k = y.1
        · rw [lk_self (x := y) e, rise_gt hr (by omega), rise_all hl (k := k) (by omega)]
          subst e
          simp
        · rw [lk_other (x := y) e]
          constructor
          · rintro (e2 | e2)
            · exact absurd (by injection e2) e
            · exact e2
          · exact .inr
      · have hxy : x.1 = y.1 := by omega
        split
        · rename_i hv
          rw [h3]
          by_cases e : k = x.1
          · rw [lk_self (x := x) e, lk_self (x := y) (e.trans hxy), rise_gt hl (by omega), rise_gt hr (by omega), hv]
            simp
          · rw [lk_other (x := x) e, lk_other (x := y) (fun e2 => e (by omega))]
        · rename_i hv
          rw [List.mem_cons, h3]
          by_cases e : k = x.1
          · rw [lk_self (x := x) e, lk_self (x := y) (e.trans hxy), rise_gt hl (by omega), rise_gt hr (by omega)]
            subst e
            simp
            exact fun _ _ => hv
          · rw [lk_other (x := x) e, lk_other (x := y) (fun e2 => e (by omega))]
            constructor
            · rintro (e2 | e2)
              · exact absurd (by injection e2) e
              · exact e2
            · exact .inr
theorem merge_from : ∀ (n : Nat) (l r : List (Nat × Bytes)), ∀ c ∈ mergeN n l r, (∃ x ∈ l, x.1 = c.1) ∨ ∃ y ∈ r, y.1 = c.1
  | 0, _, _, c, h => by simp [mergeN] at h
  | n + 1, [], [], c, h => by simp [mergeN] at h
  | n + 1, x :: l, [], c, h => by
    rcases List.mem_cons.1 (show c ∈ (x.1, some x.2, none) :: mergeN n l [] from h) with e | e
    · exact .inl ⟨x, by simp, by rw [e]⟩
    · rcases merge_from n l [] c e with ⟨y, hy, he⟩ | ⟨y, hy, he⟩
      · exact .inl ⟨y, List.mem_cons_of_mem _ hy, he⟩
      · exact .inr ⟨y, hy, he⟩
  | n + 1, [], y :: r, c, h => by
    rcases List.mem_cons.1 (show c ∈ (y.1, none, some y.2) :: mergeN n [] r from h) with e | e
    · exact .inr ⟨y, by simp, by rw [e]⟩
    · rcases merge_from n [] r c e with ⟨z, hz, he⟩ | ⟨z, hz, he⟩
      · exact .inl ⟨z, hz, he⟩
      · exact .inr ⟨z, List.mem_cons_of_mem _ hz, he⟩
  | n + 1, x :: l, y :: r, c, h => by
    have h1 := merge_from n l (y :: r) c
    have h2 := merge_from n (x :: l) r c
    have h3 := merge_from n l r c
    have up : ((∃ x ∈ l, x.1 = c.1) ∨ ∃ y ∈ r, y.1 = c.1) → (∃ z ∈ x :: l, z.1 = c.1) ∨ ∃ z ∈ y :: r, z.1 = c.1 := fun h => h.imp (fun ⟨z, hz, he⟩ => ⟨z, List.mem_cons_of_mem _ hz, he⟩) fun ⟨z, hz, he⟩ => ⟨z, List.mem_cons_of_mem _ hz, he⟩
    unfold mergeN at h
    split at h
    · rcases List.mem_cons.1 h with e | e
      · exact .inl ⟨x, by simp, by rw [e]⟩
      · exact (h1 e).imp (fun ⟨z, hz, he⟩ => ⟨z, List.mem_cons_of_mem _ hz, he⟩) id
    · split at h
      · rcases List.mem_cons.1 h with e | e
        · exact .inr ⟨y, by simp, by rw [e]⟩
        · exact (h2 e).imp id fun ⟨z, hz, he⟩ => ⟨z, List.mem_cons_of_mem _ hz, he⟩
      · split at h
        · exact up (h3 h)
        · rcases List.mem_cons.1 h with e | e
          · exact .inr ⟨y, by simp, by rw [e]; show y.1 = x.1; omega⟩
          · exact up (h3 e)
theorem merge_up : ∀ (n : Nat) (l r : List (Nat × Bytes)), Rise l → Rise r → (mergeN n l r).Pairwise fun a b => a.1 < b.1
  | 0, _, _, _, _ => .nil
  | n + 1, [], [], _, _ => .nil
  | n + 1, x :: l, [], hl, hr => by
    refine List.pairwise_cons.2 ⟨fun c hc => ?_, merge_up n l [] (List.pairwise_cons.1 hl).2 hr⟩
    rcases merge_from n l [] c hc with ⟨z, hz, he⟩ | ⟨z, hz, he⟩
    · have := (List.pairwise_cons.1 hl).1 z hz; show x.1 < c.1; omega
    · simp at hz
  | n + 1, [], y :: r, hl, hr => by
    refine List.pairwise_cons.2 ⟨fun c hc => ?_, merge_up n [] r hl (List.pairwise_cons.1 hr).2⟩
    rcases merge_from n [] r c hc with ⟨z, hz, he⟩ | ⟨z, hz, he⟩
    · simp at hz
    · have := (List.pairwise_cons.1 hr).1 z hz; show y.1 < c.1; omega
  | n + 1, x :: l, y :: r, hl, hr => by
    obtain ⟨a1, a2⟩ := List.pairwise_cons.1 hl
    obtain ⟨b1, b2⟩ := List.pairwise_cons.1 hr
    unfold mergeN
    split
    · refine List.pairwise_cons.2 ⟨fun c hc => ?_, merge_up n l (y :: r) a2 hr⟩
      show x.1 < c.1
      rcases merge_from n l (y :: r) c hc with ⟨z, hz, he⟩ | ⟨z, hz, he⟩
      · have := a1 z hz; omega
      · rcases List.mem_cons.1 hz with e | e
        · subst e; omega
        · have := b1 z e; omega
    · split
      · refine List.pairwise_cons.2 ⟨fun c hc => ?_, merge_up n (x :: l) r hl b2⟩
        show y.1 < c.1
        rcases merge_from n (x :: l) r c hc with ⟨z, hz, he⟩ | ⟨z, hz, he⟩
        · rcases List.mem_cons.1 hz with e | e
          · subst e; omega
          · have := a1 z e; omega
        · have := b1 z hz; omega
      · split
        · exact merge_up n l r a2 b2
        · refine List.pairwise_cons.2 ⟨fun c hc => ?_, merge_up n l r a2 b2⟩
          show x.1 < c.1
          rcases merge_from n l r c hc with ⟨z, hz, he⟩ | ⟨z, hz, he⟩
          · have := a1 z hz; omega
          · have := b1 z hz; omega
/-- The changes between two maps. -/
structure ChgIs (m m' : Mp) (cs : List Chg) : Prop where
  up : cs.Pairwise fun a b => a.1 < b.1
  mem : ∀ k o n, (k, o, n) ∈ cs ↔ o = m k ∧ n = m' k ∧ m k ≠ m' k
theorem Lst.lk {m : Mp} {ps : Ps} (h : Lst m ps) (k : Nat) : lk ps k = m k := by
  cases e : m k with
  | some v => exact (lk_mem h.up).2 ((h.mem k v).2 e)
  | none =>
    exact lk_none fun x hx e2 => by
      obtain ⟨a, v⟩ := x
      have := (h.mem a v).1 hx
      simp only at e2
      subst e2
      rw [e] at this
      cases this
theorem merge_is {m m' : Mp} {ps qs : Ps} (hp : Lst m ps) (hq : Lst m' qs) {n : Nat} (hn : ps.length + qs.length ≤ n) : ChgIs m m' (mergeN n ps qs) := ⟨merge_up n ps qs hp.up hq.up, fun k o w => by
  rw [merge_mem n ps qs hn hp.up hq.up, hp.lk, hq.lk]⟩
/-- Rising lists of the same members are as long. -/
theorem rise_len {α β : Type} {f : α → Nat} {g : β → Nat} {l : List α} {r : List β} (hl : l.Pairwise fun a b => f a < f b) (hr : r.Pairwise fun a b => g a < g b) (h : ∀ k, (∃ x ∈ l, f x = k) ↔ ∃ y ∈ r, g y = k) : l.length = r.length := by
  have h1 : (l.map f).Perm (r.map g) := (List.perm_ext_iff_of_nodup (List.pairwise_map.2 (hl.imp fun h => Nat.ne_of_lt h)) (List.pairwise_map.2 (hr.imp fun h => Nat.ne_of_lt h))).2 fun k => by
    simp only [List.mem_map]
    exact h k
  simpa using h1.length_eq
theorem filt_len {α : Type} (p : α → Bool) : ∀ l : List α, l.length = (l.filter p).length + (l.filter fun x => !p x).length
  | [] => rfl
  | x :: l => by
    have ih := filt_len p l
    by_cases h : p x = true
    · simp [List.filter_cons, h]; omega
    · simp [List.filter_cons, h]; omega
theorem chg_count {m m' : Mp} {ps qs : Ps} {cs : List Chg} (hp : Lst m ps) (hq : Lst m' qs) (h : ChgIs m m' cs) : cs.length = (ps.filter fun x => decide (m' x.1 ≠ some x.2)).length + (qs.filter fun y => decide (m y.1 = none)).length := by
  have e1 : (cs.filter fun c => c.2.1.isSome).length = (ps.filter fun x => decide (m' x.1 ≠ some x.2)).length := by
    refine rise_len (f := fun c : Chg => c.1) (g := fun x : Nat × Bytes => x.1) (h.up.sublist List.filter_sublist) (hp.up.sublist List.filter_sublist) fun k => ?_
    constructor
    · rintro ⟨⟨k', o, n⟩, hc, rfl⟩
      obtain ⟨hc1, hc2⟩ := List.mem_filter.1 hc
      obtain ⟨rfl, rfl, hne⟩ := (h.mem _ _ _).1 hc1
      obtain ⟨v, hv⟩ := Option.isSome_iff_exists.1 hc2
      simp only at hv ⊢
      exact ⟨(k', v), List.mem_filter.2 ⟨(hp.mem _ _).2 hv, by simp only [decide_eq_true_eq]; rw [← hv]; exact fun e => hne e.symm⟩, rfl⟩
    · rintro ⟨⟨k', v⟩, hx, rfl⟩
      obtain ⟨hx1, hx2⟩ := List.mem_filter.1 hx
      have hv := (hp.mem _ _).1 hx1
      simp only [decide_eq_true_eq] at hx2
      exact ⟨(k', m k', m' k'), List.mem_filter.2 ⟨(h.mem _ _ _).2 ⟨rfl, rfl, fun e => hx2 (by rw [← e, hv])⟩, by simp [hv]⟩, rfl⟩
  have e2 : (cs.filter fun c => !c.2.1.isSome).length = (qs.filter fun y => decide (m y.1 = none)).length := by
    refine rise_len (f := fun c : Chg => c.1) (g := fun x : Nat × Bytes => x.1) (h.up.sublist List.filter_sublist) (hq.up.sublist List.filter_sublist) fun k => ?_
    constructor
    · rintro ⟨⟨k', o, n⟩, hc, rfl⟩
      obtain ⟨hc1, hc2⟩ := List.mem_filter.1 hc
      obtain ⟨rfl, rfl, hne⟩ := (h.mem _ _ _).1 hc1
      have hm : m k' = none := by simpa using hc2
      cases hm' : m' k' with
      | none => rw [hm, hm'] at hne; exact absurd rfl hne
      | some v => exact ⟨(k', v), List.mem_filter.2 ⟨(hq.mem _ _).2 hm', by simp [hm]⟩, rfl⟩
    · rintro ⟨⟨k', v⟩, hx, rfl⟩
      obtain ⟨hx1, hx2⟩ := List.mem_filter.1 hx
      have hv := (hq.mem _ _).1 hx1
      simp only [decide_eq_true_eq] at hx2
      exact ⟨(k', m k', m' k'), List.mem_filter.2 ⟨(h.mem _ _ _).2 ⟨rfl, rfl, by rw [hx2, hv]; simp⟩, by simp [hx2]⟩, rfl⟩
  rw [← e1, ← e2]
  exact filt_len (fun c : Chg => c.2.1.isSome) cs
end Go.Proofs.Ytgkdggidgaifhaa
