/- delta, plainly: the changes are the keys that differ, rising, once; how many they are. delta: Count, Same, Keys over a law's shelf. delta's laws: right, set. delta's laws: what set keeps. delta's laws: changed, known. delta's laws: known. delta: a range over Keys. -/
import Derived.Test.YtgkdggidgaifhaaMA
import Derived.Test.YtgkdggidgaifhaaMB
import Derived.Test.YtgkdggidgaifhaaDfZ
import Derived.Test.YtgkdggidgaifhaaMD
import Derived.Test.YtgkdggidgaifhaaMC
namespace Go.Proofs.Ytgkdggidgaifhaa
open Go.RowKit
set_option linter.unusedVariables false
set_option linter.unusedSimpArgs false

def lk : List (Nat × Bytes) → Nat → Option Bytes
  | [], _ => none
  | x :: l, k => if k = x.1 then some x.2 else lk l k
abbrev Rise (l : List (Nat × Bytes)) : Prop := l.Pairwise fun a b => a.1 < b.1
theorem lk_none {k : Nat} : ∀ {l : List (Nat × Bytes)}, (∀ x ∈ l, x.1 ≠ k) → lk l k = none
  | [], _ => rfl
  | x :: l, h => by
    unfold lk
    rw [if_neg (fun e => h x (by simp) e.symm)]
    exact lk_none fun y hy => h y (List.mem_cons_of_mem _ hy)
theorem lk_mem {k : Nat} {v : Bytes} : ∀ {l : List (Nat × Bytes)}, Rise l → (lk l k = some v ↔ (k, v) ∈ l)
  | [], _ => by simp [lk]
  | x :: l, h => by
    obtain ⟨h1, h2⟩ := List.pairwise_cons.1 h
    have ih := lk_mem (k := k) (v := v) h2
    unfold lk
    by_cases e : k = x.1
    · rw [if_pos e]
      constructor
      · intro e2; cases e2; subst e; exact List.mem_cons_self
      · intro e2
        rcases List.mem_cons.1 e2 with e3 | e3
        · rw [← e3]
        · have := h1 _ e3; simp only at this; omega
    · rw [if_neg e, ih]
      constructor
      · exact List.mem_cons_of_mem _
      · intro e2
        rcases List.mem_cons.1 e2 with e3 | e3
        · exact absurd (by rw [← e3]) e
        · exact e3
theorem rise_gt {x : Nat × Bytes} {l : List (Nat × Bytes)} (h : Rise (x :: l)) {k : Nat} (hk : k ≤ x.1) : lk l k = none := lk_none fun y hy => by have := (List.pairwise_cons.1 h).1 y hy; omega
theorem rise_all {x : Nat × Bytes} {l : List (Nat × Bytes)} (h : Rise (x :: l)) {k : Nat} (hk : k < x.1) : lk (x :: l) k = none := lk_none fun y hy => by
  rcases List.mem_cons.1 hy with e | e
  · subst e; omega
  · have := (List.pairwise_cons.1 h).1 y e; omega
theorem lk_self {x : Nat × Bytes} {l : List (Nat × Bytes)} {k : Nat} (e : k = x.1) : lk (x :: l) k = some x.2 := by unfold lk; rw [if_pos e]
theorem lk_other {x : Nat × Bytes} {l : List (Nat × Bytes)} {k : Nat} (e : k ≠ x.1) : lk (x :: l) k = lk l k := by show (if k = x.1 then _ else _) = _; rw [if_neg e]
theorem merge_mem : ∀ (n : Nat) (l r : List (Nat × Bytes)), l.length + r.length ≤ n → Rise l → Rise r → ∀ (k : Nat) (o w : Option Bytes), (k, o, w) ∈ mergeN n l r ↔ o = lk l k ∧ w = lk r k ∧ lk l k ≠ lk r k
  | 0, l, r, h, _, _, k, o, w => by
    have h1 : l = [] := List.length_eq_zero_iff.1 (by omega)
    have h2 : r = [] := List.length_eq_zero_iff.1 (by omega)
    subst h1 h2
    simp [mergeN, lk]
  | n + 1, [], [], h, _, _, k, o, w => by simp [mergeN, lk]
  | n + 1, x :: l, [], h, hl, hr, k, o, w => by
    have ih := merge_mem n l [] (by simp at h ⊢; omega) (List.pairwise_cons.1 hl).2 hr k o w
    show (k, o, w) ∈ (x.1, some x.2, none) :: mergeN n l [] ↔ _
    rw [List.mem_cons, ih]
    by_cases e : k = x.1
    · rw [lk_self e, rise_gt hl (by omega)]
      subst e
      simp [lk]
    · rw [lk_other e]
      constructor
      · rintro (e2 | e2)
        · exact absurd (by injection e2) e
        · exact e2
      · exact .inr
  | n + 1, [], y :: r, h, hl, hr, k, o, w => by
    have ih := merge_mem n [] r (by simp at h ⊢; omega) hl (List.pairwise_cons.1 hr).2 k o w
    show (k, o, w) ∈ (y.1, none, some y.2) :: mergeN n [] r ↔ _
    rw [List.mem_cons, ih]
    by_cases e : k = y.1
    · rw [lk_self e, rise_gt hr (by omega)]
      subst e
      simp [lk]
    · rw [lk_other e]
      constructor
      · rintro (e2 | e2)
        · exact absurd (by injection e2) e
        · exact e2
      · exact .inr
  | n + 1, x :: l, y :: r, h, hl, hr, k, o, w => by
    have h1 := merge_mem n l (y :: r) (by simp at h ⊢; omega) (List.pairwise_cons.1 hl).2 hr k o w
    have h2 := merge_mem n (x :: l) r (by simp at h ⊢; omega) hl (List.pairwise_cons.1 hr).2 k o w
    have h3 := merge_mem n l r (by simp at h ⊢; omega) (List.pairwise_cons.1 hl).2 (List.pairwise_cons.1 hr).2 k o w
    unfold mergeN
    split
    · rename_i hlt
      rw [List.mem_cons, h1]
      by_cases e : k = x.1
      · rw [lk_self e, rise_gt hl (by omega), rise_all hr (k := k) (by omega)]
        subst e
        simp
      · rw [lk_other (x := x) e]
        constructor
        · rintro (e2 | e2)
          · exact absurd (by injection e2) e
          · exact e2
        · exact .inr
    · split
      · rename_i _ hlt
        rw [List.mem_cons, h2]
        by_cases e : k = y.1
        · rw [lk_self (x := y) e, rise_gt hr (by omega), rise_all hl (k := k) (by omega)]
          subst e
          simp
        · rw [lk_other (x := y) e]
          constructor
          · rintro (e2 | e2)
            · exact absurd (by injection e2) e
            · exact e2
          · exact .inr
      · have hxy : x.1 = y.1 := by omega
        split
        · rename_i hv
          rw [h3]
          by_cases e : k = x.1
          · rw [lk_self (x := x) e, lk_self (x := y) (e.trans hxy), rise_gt hl (by omega), rise_gt hr (by omega), hv]
            simp
          · rw [lk_other (x := x) e, lk_other (x := y) (fun e2 => e (by omega))]
        · rename_i hv
          rw [List.mem_cons, h3]
          by_cases e : k = x.1
          · rw [lk_self (x := x) e, lk_self (x := y) (e.trans hxy), rise_gt hl (by omega), rise_gt hr (by omega)]
            subst e
            simp
            exact fun _ _ => hv
          · rw [lk_other (x := x) e, lk_other (x := y) (fun e2 => e (by omega))]
            constructor
            · rintro (e2 | e2)
              · exact absurd (by injection e2) e
              · exact e2
            · exact .inr
theorem merge_from : ∀ (n : Nat) (l r : List (Nat × Bytes)), ∀ c ∈ mergeN n l r, (∃ x ∈ l, x.1 = c.1) ∨ ∃ y ∈ r, y.1 = c.1
  | 0, _, _, c, h => by simp [mergeN] at h
  | n + 1, [], [], c, h => by simp [mergeN] at h
  | n + 1, x :: l, [], c, h => by
    rcases List.mem_cons.1 (show c ∈ (x.1, some x.2, none) :: mergeN n l [] from h) with e | e
    · exact .inl ⟨x, by simp, by rw [e]⟩
    · rcases merge_from n l [] c e with ⟨y, hy, he⟩ | ⟨y, hy, he⟩
      · exact .inl ⟨y, List.mem_cons_of_mem _ hy, he⟩
      · exact .inr ⟨y, hy, he⟩
  | n + 1, [], y :: r, c, h => by
    rcases List.mem_cons.1 (show c ∈ (y.1, none, some y.2) :: mergeN n [] r from h) with e | e
    · exact .inr ⟨y, by simp, by rw [e]⟩
    · rcases merge_from n [] r c e with ⟨z, hz, he⟩ | ⟨z, hz, he⟩
      · exact .inl ⟨z, hz, he⟩
      · exact .inr ⟨z, List.mem_cons_of_mem _ hz, he⟩
  | n + 1, x :: l, y :: r, c, h => by
    have h1 := merge_from n l (y :: r) c
    have h2 := merge_from n (x :: l) r c
    have h3 := merge_from n l r c
    have up : ((∃ x ∈ l, x.1 = c.1) ∨ ∃ y ∈ r, y.1 = c.1) → (∃ z ∈ x :: l, z.1 = c.1) ∨ ∃ z ∈ y :: r, z.1 = c.1 := fun h => h.imp (fun ⟨z, hz, he⟩ => ⟨z, List.mem_cons_of_mem _ hz, he⟩) fun ⟨z, hz, he⟩ => ⟨z, List.mem_cons_of_mem _ hz, he⟩
    unfold mergeN at h
    split at h
    · rcases List.mem_cons.1 h with e | e
      · exact .inl ⟨x, by simp, by rw [e]⟩
      · exact (h1 e).imp (fun ⟨z, hz, he⟩ => ⟨z, List.mem_cons_of_mem _ hz, he⟩) id
    · split at h
      · rcases List.mem_cons.1 h with e | e
        · exact .inr ⟨y, by simp, by rw [e]⟩
        · exact (h2 e).imp id fun ⟨z, hz, he⟩ => ⟨z, List.mem_cons_of_mem _ hz, he⟩
      · split at h
        · exact up (h3 h)
        · rcases List.mem_cons.1 h with e | e
          · exact .inr ⟨y, by simp, by rw [e]; show y.1 = x.1; omega⟩
          · exact up (h3 e)
theorem merge_up : ∀ (n : Nat) (l r : List (Nat × Bytes)), Rise l → Rise r → (mergeN n l r).Pairwise fun a b => a.1 < b.1
  | 0, _, _, _, _ => .nil
  | n + 1, [], [], _, _ => .nil
  | n + 1, x :: l, [], hl, hr => by
    refine List.pairwise_cons.2 ⟨fun c hc => ?_, merge_up n l [] (List.pairwise_cons.1 hl).2 hr⟩
    rcases merge_from n l [] c hc with ⟨z, hz, he⟩ | ⟨z, hz, he⟩
    · have := (List.pairwise_cons.1 hl).1 z hz; show x.1 < c.1; omega
    · simp at hz
  | n + 1, [], y :: r, hl, hr => by
    refine List.pairwise_cons.2 ⟨fun c hc => ?_, merge_up n [] r hl (List.pairwise_cons.1 hr).2⟩
    rcases merge_from n [] r c hc with ⟨z, hz, he⟩ | ⟨z, hz, he⟩
    · simp at hz
    · have := (List.pairwise_cons.1 hr).1 z hz; show y.1 < c.1; omega
  | n + 1, x :: l, y :: r, hl, hr => by
    obtain ⟨a1, a2⟩ := List.pairwise_cons.1 hl
    obtain ⟨b1, b2⟩ := List.pairwise_cons.1 hr
    unfold mergeN
    split
    · refine List.pairwise_cons.2 ⟨fun c hc => ?_, merge_up n l (y :: r) a2 hr⟩
      show x.1 < c.1
      rcases merge_from n l (y :: r) c hc with ⟨z, hz, he⟩ | ⟨z, hz, he⟩
      · have := a1 z hz; omega
      · rcases List.mem_cons.1 hz with e | e
        · subst e; omega
        · have := b1 z e; omega
    · split
      · refine List.pairwise_cons.2 ⟨fun c hc => ?_, merge_up n (x :: l) r hl b2⟩
        show y.1 < c.1
        rcases merge_from n (x :: l) r c hc with ⟨z, hz, he⟩ | ⟨z, hz, he⟩
        · rcases List.mem_cons.1 hz with e | e
          · subst e; omega
          · have := a1 z e; omega
        · have := b1 z hz; omega
      · split
        · exact merge_up n l r a2 b2
        · refine List.pairwise_cons.2 ⟨fun c hc => ?_, merge_up n l r a2 b2⟩
          show x.1 < c.1
          rcases merge_from n l r c hc with ⟨z, hz, he⟩ | ⟨z, hz, he⟩
          · have := a1 z hz; omega
          · have := b1 z hz; omega
/-- The changes between two maps. -/
structure ChgIs (m m' : Mp) (cs : List Chg) : Prop where
  up : cs.Pairwise fun a b => a.1 < b.1
  mem : ∀ k o n, (k, o, n) ∈ cs ↔ o = m k ∧ n = m' k ∧ m k ≠ m' k
theorem Lst.lk {m : Mp} {ps : Ps} (h : Lst m ps) (k : Nat) : lk ps k = m k := by
  cases e : m k with
  | some v => exact (lk_mem h.up).2 ((h.mem k v).2 e)
  | none =>
    exact lk_none fun x hx e2 => by
      obtain ⟨a, v⟩ := x
      have := (h.mem a v).1 hx
      simp only at e2
      subst e2
      rw [e] at this
      cases this
theorem merge_is {m m' : Mp} {ps qs : Ps} (hp : Lst m ps) (hq : Lst m' qs) {n : Nat} (hn : ps.length + qs.length ≤ n) : ChgIs m m' (mergeN n ps qs) := ⟨merge_up n ps qs hp.up hq.up, fun k o w => by
  rw [merge_mem n ps qs hn hp.up hq.up, hp.lk, hq.lk]⟩
/-- Rising lists of the same members are as long. -/
theorem rise_len {α β : Type} {f : α → Nat} {g : β → Nat} {l : List α} {r : List β} (hl : l.Pairwise fun a b => f a < f b) (hr : r.Pairwise fun a b => g a < g b) (h : ∀ k, (∃ x ∈ l, f x = k) ↔ ∃ y ∈ r, g y = k) : l.length = r.length := by
  have h1 : (l.map f).Perm (r.map g) := (List.perm_ext_iff_of_nodup (List.pairwise_map.2 (hl.imp fun h => Nat.ne_of_lt h)) (List.pairwise_map.2 (hr.imp fun h => Nat.ne_of_lt h))).2 fun k => by
    simp only [List.mem_map]
    exact h k
  simpa using h1.length_eq
theorem filt_len {α : Type} (p : α → Bool) : ∀ l : List α, l.length = (l.filter p).length + (l.filter fun x => !p x).length
  | [] => rfl
  | x :: l => by
    have ih := filt_len p l
    by_cases h : p x = true
    · simp [List.filter_cons, h]; omega
    · simp [List.filter_cons, h]; omega
theorem chg_count {m m' : Mp} {ps qs : Ps} {cs : List Chg} (hp : Lst m ps) (hq : Lst m' qs) (h : ChgIs m m' cs) : cs.length = (ps.filter fun x => decide (m' x.1 ≠ some x.2)).length + (qs.filter fun y => decide (m y.1 = none)).length := by
  have e1 : (cs.filter fun c => c.2.1.isSome).length = (ps.filter fun x => decide (m' x.1 ≠ some x.2)).length := by
    refine rise_len (f := fun c : Chg => c.1) (g := fun x : Nat × Bytes => x.1) (h.up.sublist List.filter_sublist) (hp.up.sublist List.filter_sublist) fun k => ?_
    constructor
    · rintro ⟨⟨k', o, n⟩, hc, rfl⟩
      obtain ⟨hc1, hc2⟩ := List.mem_filter.1 hc
      obtain ⟨rfl, rfl, hne⟩ := (h.mem _ _ _).1 hc1
      obtain ⟨v, hv⟩ := Option.isSome_iff_exists.1 hc2
      simp only at hv ⊢
      exact ⟨(k', v), List.mem_filter.2 ⟨(hp.mem _ _).2 hv, by simp only [decide_eq_true_eq]; rw [← hv]; exact fun e => hne e.symm⟩, rfl⟩
    · rintro ⟨⟨k', v⟩, hx, rfl⟩
      obtain ⟨hx1, hx2⟩ := List.mem_filter.1 hx
      have hv := (hp.mem _ _).1 hx1
      simp only [decide_eq_true_eq] at hx2
      exact ⟨(k', m k', m' k'), List.mem_filter.2 ⟨(h.mem _ _ _).2 ⟨rfl, rfl, fun e => hx2 (by rw [← e, hv])⟩, by simp [hv]⟩, rfl⟩
  have e2 : (cs.filter fun c => !c.2.1.isSome).length = (qs.filter fun y => decide (m y.1 = none)).length := by
    refine rise_len (f := fun c : Chg => c.1) (g := fun x : Nat × Bytes => x.1) (h.up.sublist List.filter_sublist) (hq.up.sublist List.filter_sublist) fun k => ?_
    constructor
    · rintro ⟨⟨k', o, n⟩, hc, rfl⟩
      obtain ⟨hc1, hc2⟩ := List.mem_filter.1 hc
      obtain ⟨rfl, rfl, hne⟩ := (h.mem _ _ _).1 hc1
      have hm : m k' = none := by simpa using hc2
      cases hm' : m' k' with
      | none => rw [hm, hm'] at hne; exact absurd rfl hne
      | some v => exact ⟨(k', v), List.mem_filter.2 ⟨(hq.mem _ _).2 hm', by simp [hm]⟩, rfl⟩
    · rintro ⟨⟨k', v⟩, hx, rfl⟩
      obtain ⟨hx1, hx2⟩ := List.mem_filter.1 hx
      have hv := (hq.mem _ _).1 hx1
      simp only [decide_eq_true_eq] at hx2
      exact ⟨(k', m k', m' k'), List.mem_filter.2 ⟨(h.mem _ _ _).2 ⟨rfl, rfl, by rw [hx2, hv]; simp⟩, by simp [hx2]⟩, rfl⟩
  rw [← e1, ← e2]
  exact filt_len (fun c : Chg => c.2.1.isSome) cs
end Go.Proofs.Ytgkdggidgaifhaa
namespace Go.Proofs.Ytgkdggidgaifhaa
open Go.RowKit
set_option linter.unusedVariables false
set_option linter.unusedSimpArgs false

/-- The changes from one list of pairs to another. -/
def chgs (ps qs : Ps) : List Chg := mergeN (ps.length + qs.length) ps qs
section
variable {W w w' : World} {S T : Nat} {O : Nat → Prop} {st : ShS × Int} {r1 r2 : Int × Int} {m1 m2 : Mp} {ps qs : Ps}
/-- Two walks, one behind the other. -/
theorem two_walks (h : shP.In st.1) (hm1 : TellsR (shRd st.1.L) r1 m1) (hm2 : TellsR (shRd st.1.L) r2 m2) (hp : Lst m1 ps) (hq : Lst m2 qs) (hl : ps.length ≤ 149796) (hl2 : qs.length ≤ 149796) :
    ∃ (s1 s2 : ShS) (l1 l2 : Int), walkF shK (pairsC (fMo fCo)) 7 (st.1, 1048576, ([], true)) r1 0 0 = ((s1, l1, (ps, true)), true, 0) ∧ walkF shK (pairsC (fMo fCo)) 7 (s1, 1048576, ([], true)) r2 0 0 = ((s2, l2, (qs, true)), true, 0) ∧ Like shP st.1 s2 ∧ (∀ n, shK.Rdy st.1 n → shK.Rdy s1 n) ∧ ∀ n, shK.Rdy st.1 n → shK.Rdy s2 n := by
  have fold_co : ∀ (ps : Ps) (a : Ps), foldU (fMo fCo) (a, true) ps = ((a ++ ps, true), true) := fun ps => by
    induction ps with
    | nil => intro a; simp [foldU]
    | cons x ps ih =>
      intro a
      obtain ⟨k, v⟩ := x
      have e : foldU (fMo fCo) (a, true) ((k, v) :: ps) = foldU (fMo fCo) (a ++ [(k, v)], true) ps := rfl
      rw [e, ih]
      simp
  obtain ⟨ps', hp', _, hgo⟩ := tells_list shP hm1 h
  obtain rfl := hp.uniq hp'
  obtain ⟨s1, l1, hw1, hk1⟩ := hgo (fMo fCo) ([], true) hl
  rw [fold_co] at hw1
  obtain ⟨qs', hq', _, hgo2⟩ := tells_list shP (s := s1) (r := r2) (m := m2) (by rw [hk1.rd]; exact hm2) hk1.inn
  obtain rfl := hq.uniq hq'
  obtain ⟨s2, l2, hw2, hk2⟩ := hgo2 (fMo fCo) ([], true) hl2
  rw [fold_co] at hw2
  have a1 : ∀ n, shK.Rdy st.1 n → shK.Rdy s1 n := fun n hn => by
    have := walkF_rdy (K := shK) shK_good (pairsC (fMo fCo)) 7 (st.1, 1048576, ([], true)) r1 0 0 n hn
    rw [hw1] at this
    exact this
  exact ⟨s1, s2, l1, l2, hw1, hw2, hk1.trans hk2, a1, fun n hn => by
    have := walkF_rdy (K := shK) shK_good (pairsC (fMo fCo)) 7 (s1, 1048576, ([], true)) r2 0 0 n (a1 n hn)
    rw [hw2] at this
    exact this⟩
/-- What changes leaves in a law. -/
structure CgOk {α : Type} {f : α → Chg → α × Bool} (C : CbC f) (w w' : World) (S T : Nat) (O Ov Ov' : Nat → Prop) (st : ShS × Int) (s' : ShS) (a : α) : Prop where
  tr : TrAt (shM S) w' T O s' st.2
  like : Like shP st.1 s'
  rdy : ∀ n, shK.Rdy st.1 n → shK.Rdy s' n
  iv : C.Iv w' Ov' a
  off : Off (fun k => O k ∨ Ov k) w w'
  gr : ∀ k, Ov' k → Ov k ∨ w.heap.size ≤ k
theorem changes_law {α : Type} {f : α → Chg → α × Bool} (C : CbC f) {Ov : Nat → Prop} {a : α} (h : TrAt (shM S) w T O st.1 st.2) (hin : shP.In st.1) (hr : shK.Rdy st.1 0) (hm1 : TellsR (shRd st.1.L) r1 m1) (hm2 : TellsR (shRd st.1.L) r2 m2) (hp : Lst m1 ps) (hq : Lst m2 qs) (hl : ps.length ≤ 149796) (hl2 : qs.length ≤ 149796)
    (hi : C.Iv w Ov a) (hc : C.Rdy a (ps.length + qs.length)) (d1 : ∀ k, O k → ¬ Ov k) (d2 : ¬ Ov T) :
    Calls Try.prog 28 #[.pointer (some ⟨T, 0, none⟩), addrV r1, addrV r2, C.fv] w fun e w' => ∃ Ov' s', e = .returned (.int .i64 0) ∧ CgOk C w w' S T O Ov Ov' st s' (foldE f a (chgs ps qs)).1 := by
  obtain ⟨s1, s2, l1, l2, hw1, hw2, hk, a1, a2⟩ := two_walks hin hm1 hm2 hp hq hl hl2
  exact (changes_any (M := shM S) shK_good C h hi hr (a1 0 hr) hc d1 d2 hl hl2 hw1 hw2).mono fun e w' ⟨Ov', he, htr, hiv, hof, hgr⟩ => ⟨Ov', s2, he, ⟨htr, hk, a2, hiv, hof, hgr⟩⟩
end
/-- Count's own function. -/
def fCnt (a : Int) (_ : Chg) : Int × Bool := (inc64 a, true)
theorem fold_cnt : ∀ (cs : List Chg) (a : Int), foldE fCnt a cs = (incN a cs.length, true)
  | [], a => rfl
  | c :: cs, a => by
    have ih := fold_cnt cs (inc64 a)
    have e : foldE fCnt a (c :: cs) = foldE fCnt (inc64 a) cs := rfl
    rw [e, ih, List.length_cons, show inc64 a = incN a 1 from rfl, incN_add, Nat.add_comm]
set_option maxRecDepth 100000 in
theorem count1_any {w : World} {B : Nat} {a : Int} {c : Chg} {O : Nat → Prop} {vs : Array Value} (h0 : w.cell? ⟨B, 0, none⟩ = some (.int .i64 a)) (f0 : w.frozen? ⟨B, 0, none⟩ = false) (ha : argC w O c vs) :
    Calls Try.prog 29 (vs ++ #[.pointer (some ⟨B, 0, none⟩)]) w fun e w' => e = .returned (.bool true) ∧ w'.cell? ⟨B, 0, none⟩ = some (.int .i64 (inc64 a)) ∧ w'.frozen? ⟨B, 0, none⟩ = false ∧ Off (· = B) w w' := by
  obtain ⟨v1, v2, rfl, _, ⟨x1, x2, x3, rfl, _⟩, ⟨y1, y2, y3, rfl, _⟩, _⟩ := ha
  have lB := lt_of_cell h0
  simp only [List.push_toArray, List.append_toArray, List.cons_append, List.nil_append]
  go_enter Try.func29, Try.ntmps29
  go_wp2
  go_ret
  have o1 : Off (· = B) w (w.setCell ⟨B, 0, none⟩ (.int .i64 (inc64 a))) := (Off.refl (· = B) w).setCell (p := ⟨B, 0, none⟩) rfl _
  have e1 : (w.setCell ⟨B, 0, none⟩ (.int .i64 (inc64 a))).cell? ⟨B, 0, none⟩ = some (.int .i64 (inc64 a)) := World.cell?_setCell_same _ _ _ h0
  have e2 : (w.setCell ⟨B, 0, none⟩ (.int .i64 (inc64 a))).frozen? ⟨B, 0, none⟩ = false := (World.frozen?_setCell _ _ _ _).trans f0
  have e3 : B < (w.setCell ⟨B, 0, none⟩ (.int .i64 (inc64 a))).heap.size := lt_of_cell e1
  refine ⟨rfl, ?_⟩
  show ((w.setCell ⟨B, 0, none⟩ (.int .i64 (inc64 a))).alloc _).cell? _ = _ ∧ ((w.setCell ⟨B, 0, none⟩ (.int .i64 (inc64 a))).alloc _).frozen? _ = _ ∧ Off _ w ((w.setCell ⟨B, 0, none⟩ (.int .i64 (inc64 a))).alloc _)
  generalize w.setCell ⟨B, 0, none⟩ (.int .i64 (inc64 a)) = V at *
  have hb : ∀ o, Below V.heap.size V (V.alloc o) := fun o => (Below.refl _ _).alloc (Nat.le_refl _) o
  exact ⟨((hb _).cell (p := ⟨B, 0, none⟩) e3).trans e1, ((hb _).frozen (p := ⟨B, 0, none⟩) e3).trans e2, o1.step (hb _)⟩
/-- Count's own function, told of changes. -/
def cbCnt (B : Nat) : CbC fCnt where
  fv := .func (.func 29) #[] #[.pointer (some ⟨B, 0, none⟩)]
  Iv := fun w O a => w.cell? ⟨B, 0, none⟩ = some (.int .i64 a) ∧ w.frozen? ⟨B, 0, none⟩ = false ∧ ∀ k, O k ↔ k = B
  Rdy := fun _ _ => True
  mono := fun _ _ _ _ _ => trivial
  step := fun _ _ _ _ _ => trivial
  off := fun {S O w w' a} h ho hs => ⟨(ho.cell (p := ⟨B, 0, none⟩) (lt_of_cell h.1) (fun e => hs B e ((h.2.2 B).2 rfl))).trans h.1, (ho.frozen (p := ⟨B, 0, none⟩) (lt_of_cell h.1) (fun e => hs B e ((h.2.2 B).2 rfl))).trans h.2.1, h.2.2⟩
  lt := fun {O w a k} h hk => by rw [(h.2.2 k).1 hk]; exact lt_of_cell h.1
  kind := .inl ⟨29, #[.pointer (some ⟨B, 0, none⟩)], rfl, ent_fn Try.func29 (by kernel_rfl) rfl, fun {w O a e vs} h _ ha => (count1_any h.1 h.2.1 ha).mono fun e w' ⟨he, h1, h2, h3⟩ => ⟨O, he, ⟨h1, h2, h.2.2⟩, h3.mono fun k hk => (h.2.2 k).2 hk, fun k hk => .inl hk⟩⟩
section
variable {W w w' : World} {S T : Nat} {O : Nat → Prop} {st : ShS × Int} {r1 r2 : Int × Int} {m1 m2 : Mp} {ps qs : Ps}
theorem mergeN_len : ∀ (n : Nat) (l r : List (Nat × Bytes)), (mergeN n l r).length ≤ n
  | 0, _, _ => Nat.le_refl _
  | n + 1, [], [] => Nat.zero_le _
  | n + 1, x :: l, [] => by have := mergeN_len n l []; show (mergeN n l []).length + 1 ≤ _; omega
  | n + 1, [], y :: r => by have := mergeN_len n [] r; show (mergeN n [] r).length + 1 ≤ _; omega
  | n + 1, x :: l, y :: r => by
    have h1 := mergeN_len n l (y :: r)
    have h2 := mergeN_len n (x :: l) r
    have h3 := mergeN_len n l r
    unfold mergeN
    split
    · show (mergeN n l (y :: r)).length + 1 ≤ _; omega
    · split
      · show (mergeN n (x :: l) r).length + 1 ≤ _; omega
      · split
        · omega
        · show (mergeN n l r).length + 1 ≤ _; omega
def CtPost (W w : World) (S T : Nat) (O : Nat → Prop) (st : ShS × Int) (n : Nat) (e : Ending) (w' : World) : Prop := e = .returned (.tuple #[.int .i64 (n : Nat), .int .i64 0]) ∧ ∃ s', GetOk W w w' S T O st s'
set_option maxRecDepth 100000 in
set_option maxHeartbeats 2000000 in
theorem count_law (h : ShL W w S T O st) (hr : shK.Rdy st.1 0) (hm1 : TellsR (shRd st.1.L) r1 m1) (hm2 : TellsR (shRd st.1.L) r2 m2) (hp : Lst m1 ps) (hq : Lst m2 qs) (hl : ps.length ≤ 149796) (hl2 : qs.length ≤ 149796) :
    Calls Try.prog 14 #[.pointer (some ⟨T, 0, none⟩), .agg #[.int .i64 r1.1, .int .i64 r1.2], .agg #[.int .i64 r2.1, .int .i64 r2.2]] w (CtPost W w S T O st (chgs ps qs).length) := by
  obtain ⟨ra1, rb1⟩ := r1
  obtain ⟨ra2, rb2⟩ := r2
  have H := Lib.hid h
  have HR := Lib.hid hr
  have HM1 := Lib.hid hm1
  have HM2 := Lib.hid hm2
  have HP := Lib.hid hp
  have HQ := Lib.hid hq
  have HLe := Lib.hid (And.intro hl hl2)
  have HOL := Lib.hid (fun k hk => (shM S).lt h.tr.at_ (k := k) hk)
  have hT := h.tr.lt
  clear h hr hm1 hm2 hp hq hl hl2
  go_enter Try.func14, Try.ntmps14
  go_upto_region 2 with (fail)
  have tb : ∀ V, V = (((w.alloc (.cells #[.int .i64 ra1, .int .i64 rb1] 30)).alloc (.cells #[.int .i64 ra2, .int .i64 rb2] 30)).alloc (.cells #[.int .i64 0] 3)) →
      Below w.heap.size w V ∧ BoxA V w.heap.size (ra1, rb1) ∧ BoxA V (w.heap.size + 1) (ra2, rb2) ∧ V.cell? ⟨w.heap.size + 2, 0, none⟩ = some (.int .i64 0) ∧ V.frozen? ⟨w.heap.size + 2, 0, none⟩ = false := by
    rintro V rfl
    obtain ⟨b1, x1, x2, s1⟩ := two_boxesR w (ra1, rb1) (ra2, rb2) 30 30 _ rfl
    simp only at b1 x1 x2 s1
    generalize (w.alloc (.cells #[.int .i64 ra1, .int .i64 rb1] 30)).alloc (.cells #[.int .i64 ra2, .int .i64 rb2] 30) = W1 at *
    have b3 : Below W1.heap.size W1 (W1.alloc (.cells #[.int .i64 0] 3)) := (Below.refl _ _).alloc (Nat.le_refl _) _
    have c3 := alloc_at W1 (.int .i64 0) 3
    rw [s1] at c3
    exact ⟨b1.trans (b3.mono (by omega)), x1.off (S := fun _ => False) (Off.of_below b3) id, x2.off (S := fun _ => False) (Off.of_below b3) id, c3.1, c3.2⟩
  refine wp_forget (fun V => Below w.heap.size w V ∧ BoxA V w.heap.size (ra1, rb1) ∧ BoxA V (w.heap.size + 1) (ra2, rb2) ∧ V.cell? ⟨w.heap.size + 2, 0, none⟩ = some (.int .i64 0) ∧ V.frozen? ⟨w.heap.size + 2, 0, none⟩ = false) (tb _ (by simp)) ?_
  clear tb
  rintro V ⟨hb, x1, x2, c3, f3⟩
  have d0 := x1.1
  have d1 := x1.2.1
  have d2 := x2.1
  have d3 := x2.2.1
  have l1 := x1.lt
  have l2 := x2.lt
  simp only at d0 d1 d2 d3
  have HB := Lib.hid hb
  have HCH : Hid _ := Lib.hid (changes_law (cbCnt (w.heap.size + 2)) (Ov := fun k => k = w.heap.size + 2) (a := 0) (H.out.tr.up hb) H.out.inn HR.out HM1.out HM2.out HP.out HQ.out HLe.out.1 HLe.out.2 ⟨c3, f3, fun k => Iff.rfl⟩ trivial (fun k hk e => by have := HOL.out k hk; omega) (by omega))
  unfold addrV at HCH
  have hfv : (cbCnt (w.heap.size + 2)).fv = .func (.func 29) #[] #[.pointer (some ⟨w.heap.size + 2, 0, none⟩)] := rfl
  rw [hfv] at HCH
  clear hb x1 x2 c3 f3 hfv
  go_upto_region 3 with (go_at_call 28; refine HCH.out.mono ?_; rintro e V9 ⟨Ov', s', rfl, hcg⟩)
  have c3 := hcg.iv.1
  have l3 := lt_of_cell c3
  have HCG := Lib.hid hcg
  clear hcg d0 d1 d2 d3 l1 l2 HCH
  rw [fold_cnt, incN_small _ 0 (by omega) (by have := mergeN_len (ps.length + qs.length) ps qs; have := HLe.out; unfold chgs; omega), Int.zero_add] at c3
  simp only at c3
  go_wp2
  go_ret2
  have hof : Off O w V9 := ((Off.of_below HB.out).mono (fun _ => False.elim)).late HCG.out.off fun i hl e => e.elim id (fun e => by omega)
  exact ⟨rfl, s', get_ok H.out HCG.out.tr hof (HCG.out.like.aft _) HCG.out.rdy⟩
def SmePost (W w : World) (S T : Nat) (O : Nat → Prop) (st : ShS × Int) (b : Bool) (e : Ending) (w' : World) : Prop := e = .returned (.tuple #[.bool b, .int .i64 0]) ∧ ∃ s', GetOk W w w' S T O st s'
set_option maxRecDepth 100000 in
set_option maxHeartbeats 2000000 in
theorem dsame_law (h : ShL W w S T O st) (hr : shK.Rdy st.1 0) (hm1 : TellsR (shRd st.1.L) r1 m1) (hm2 : TellsR (shRd st.1.L) r2 m2) (hp : Lst m1 ps) (hq : Lst m2 qs) (hl : ps.length ≤ 149796) (hl2 : qs.length ≤ 149796) :
    Calls Try.prog 15 #[.pointer (some ⟨T, 0, none⟩), .agg #[.int .i64 r1.1, .int .i64 r1.2], .agg #[.int .i64 r2.1, .int .i64 r2.2]] w (SmePost W w S T O st (decide ((chgs ps qs).length = 0))) := by
  obtain ⟨ra1, rb1⟩ := r1
  obtain ⟨ra2, rb2⟩ := r2
  have H := Lib.hid h
  have HCT := Lib.hid (fun (V : World) (hb : Below w.heap.size w V) => count_law (r1 := (ra1, rb1)) (r2 := (ra2, rb2)) (h.up hb) hr hm1 hm2 hp hq hl hl2)
  simp only at HCT
  clear h hr hm1 hm2 hp hq hl hl2
  go_enter Try.func15, Try.ntmps15
  go_upto_region 1 with (fail)
  refine wp_forget (fun V => Below w.heap.size w V ∧ BoxA V w.heap.size (ra1, rb1) ∧ BoxA V (w.heap.size + 1) (ra2, rb2) ∧ V.heap.size = w.heap.size + 2) (two_boxesR w (ra1, rb1) (ra2, rb2) _ _ _ rfl) ?_
  rintro V ⟨hb, x1, x2, hs⟩
  have d0 := x1.1
  have d1 := x1.2.1
  have d2 := x2.1
  have d3 := x2.2.1
  have l1 := x1.lt
  have l2 := x2.lt
  simp only at d0 d1 d2 d3
  have HB := Lib.hid hb
  clear hb x1 x2 hs
  go_upto_region 2 with (go_at_call 14; refine (HCT.out V HB.out).mono ?_; rintro e V9 ⟨rfl, s', hg⟩)
  have HG := Lib.hid hg
  clear hg d0 d1 d2 d3 l1 l2 HCT
  generalize (chgs ps qs).length = n at *
  have hn0 : ((n : Int) == 0) = decide (n = 0) := by
    rcases Nat.eq_zero_or_pos n with h | h
    · subst h; rfl
    · rw [decide_eq_false (by omega)]; simp; omega
  go_wp2
  go_ret2
  exact ⟨rfl, s', HG.out.l, ((Off.of_below HB.out).mono (fun _ => False.elim)).trans HG.out.off, HG.out.aft, HG.out.rdy⟩
/-- What is ranged over, told of changes. -/
def cbY {α : Type} {f : α → Chg → α × Bool} (Y : YldG f argC ownC) : CbC f where
  fv := .func (.yield Y.l) #[] #[]
  Iv := Y.Iv
  Rdy := Y.Rdy
  mono := Y.mono
  step := Y.step
  off := Y.off
  lt := Y.lt
  kind := .inr ⟨Y.l, rfl, Y.call⟩
set_option maxRecDepth 100000 in
theorem keys1_law {α : Type} {f : α → Chg → α × Bool} (Y : YldG f argC ownC) {Ov : Nat → Prop} {a : α} {B3 B4 B5 : Nat} (h : TrAt (shM S) w T O st.1 st.2) (hin : shP.In st.1) (hr : shK.Rdy st.1 0) (hm1 : TellsR (shRd st.1.L) r1 m1) (hm2 : TellsR (shRd st.1.L) r2 m2) (hp : Lst m1 ps) (hq : Lst m2 qs) (hl : ps.length ≤ 149796) (hl2 : qs.length ≤ 149796)
    (hi : Y.Iv w Ov a) (hc : Y.Rdy a (ps.length + qs.length)) (d1 : ∀ k, O k → ¬ Ov k) (d2 : ¬ Ov T) (c3 : w.cell? ⟨B3, 0, none⟩ = some (.pointer (some ⟨T, 0, none⟩))) (c4 : BoxA w B4 r1) (c5 : BoxA w B5 r2) :
    Calls Try.prog 27 #[.func (.yield Y.l) #[] #[], .pointer (some ⟨B3, 0, none⟩), .pointer (some ⟨B4, 0, none⟩), .pointer (some ⟨B5, 0, none⟩)] w fun e w' => ∃ Ov' s', (∃ v, e = .returned v) ∧ CgOk (cbY Y) w w' S T O Ov Ov' st s' (foldE f a (chgs ps qs)).1 := by
  obtain ⟨ra1, rb1⟩ := r1
  obtain ⟨ra2, rb2⟩ := r2
  have HCH : Hid _ := Lib.hid (changes_law (cbY Y) h hin hr hm1 hm2 hp hq hl hl2 hi hc d1 d2)
  unfold addrV at HCH
  rw [show (cbY Y).fv = .func (.yield Y.l) #[] #[] from rfl] at HCH
  have l3 := lt_of_cell c3
  have l4 := c4.lt
  have l5 := c5.lt
  have d0 := c4.1
  have d1' := c4.2.1
  have d2' := c5.1
  have d3 := c5.2.1
  simp only at d0 d1' d2' d3 HCH
  clear h hin hr hm1 hm2 hp hq hl hl2 hi hc d1 d2 c4 c5
  go_enter Try.func27, Try.ntmps27
  go_wp2_with (go_at_call 28; refine HCH.out.mono ?_; rintro e V9 ⟨Ov', s', rfl, hcg⟩; have HCG := Lib.hid hcg; clear hcg)
  go_end0
  exact ⟨Ov', s', ⟨_, rfl⟩, HCG.out⟩
def KyPost (w : World) (T : Nat) (r1 r2 : Int × Int) (e : Ending) (w' : World) : Prop :=
  e = .returned (.func (.func 27) #[] #[.pointer (some ⟨w.heap.size, 0, none⟩), .pointer (some ⟨w.heap.size + 1, 0, none⟩), .pointer (some ⟨w.heap.size + 2, 0, none⟩)]) ∧ Below w.heap.size w w' ∧ w'.heap.size = w.heap.size + 3 ∧ w'.cell? ⟨w.heap.size, 0, none⟩ = some (.pointer (some ⟨T, 0, none⟩)) ∧ BoxA w' (w.heap.size + 1) r1 ∧ BoxA w' (w.heap.size + 2) r2
theorem keys_any (w : World) (T : Nat) (r1 r2 : Int × Int) : Calls Try.prog 13 #[.pointer (some ⟨T, 0, none⟩), .agg #[.int .i64 r1.1, .int .i64 r1.2], .agg #[.int .i64 r2.1, .int .i64 r2.2]] w (KyPost w T r1 r2) := by
  obtain ⟨ra1, rb1⟩ := r1
  obtain ⟨ra2, rb2⟩ := r2
  go_enter Try.func13, Try.ntmps13
  go_wp2
  go_ret
  have b1 := (Below.refl w.heap.size w).alloc (Nat.le_refl _) (.cells #[.pointer (some ⟨T, 0, none⟩)] 25)
  have c1 := (alloc_at w (.pointer (some ⟨T, 0, none⟩)) 25).1
  have s1 : (w.alloc (.cells #[.pointer (some ⟨T, 0, none⟩)] 25)).heap.size = w.heap.size + 1 := by simp
  generalize w.alloc (.cells #[.pointer (some ⟨T, 0, none⟩)] 25) = W1 at *
  obtain ⟨b2, x1, x2, s2⟩ := two_boxesR W1 (ra1, rb1) (ra2, rb2) 30 30 _ rfl
  rw [s1] at x1 x2 s2
  simp only at b2 x1 x2 s2
  exact ⟨by simp [s1], b1.trans (b2.mono (by omega)), s2, (b2.cell (p := ⟨w.heap.size, 0, none⟩) (by show w.heap.size < W1.heap.size; omega)).trans c1, x1, x2⟩
end
end Go.Proofs.Ytgkdggidgaifhaa
namespace Go.Proofs.Ytgkdggidgaifhaa
open Go.RowKit Go.Maps Go.MapKept
open Go.ChangeMaps (setBlock)
set_option linter.unusedVariables false
set_option linter.unusedSimpArgs false

/-- What right tells of pairs. -/
def okP (p : PArg) : Prop := keyOk p.key ∧ p.L.length ≤ 256
instance (p : PArg) : Decidable (okP p) := inferInstanceAs (Decidable (keyOk p.key ∧ p.L.length ≤ 256))
def RightL (b : Nat → PArg) (n : Nat) : Prop := (∀ i, i < n → okP (b i)) ∧ n ≤ 100
instance (b : Nat → PArg) (n : Nat) : Decidable (RightL b n) := inferInstanceAs (Decidable ((∀ i, i < n → okP (b i)) ∧ n ≤ 100))
set_option maxRecDepth 100000 in
set_option maxHeartbeats 4000000 in
theorem right12_any {w : World} {A : Option Addr} {n c : Nat} {b : Nat → PArg} (h : Prs w A n b) (hn : n ≤ 9223372036854775807) :
    Calls Try.prog 8 #[.slice A n c] w fun e w' => e = .returned (.bool (decide (RightL b n))) ∧ w' = w := by
  have HP := Lib.hid h
  clear h
  go_enter Try.func8, Try.ntmps8
  go_wp2_with fail
  go_loopw [3] (fun i wr => ∃ j : Nat, j ≤ n ∧ i = .int .i64 (j : Nat) ∧ wr = w ∧ ∀ k, k < j → okP (b k)) (fun i _ => n - (intOf i).toNat)
  case atStart => exact ⟨0, by omega, rfl, rfl, fun k hk => by omega⟩
  case round =>
    obtain ⟨j, hj, rfl, rfl, hok⟩ := hrel
    have HOK := Lib.hid hok
    clear hok
    by_cases hjn : j < n
    · have hji : (j : Int) < (n : Int) := by omega
      obtain ⟨g, o, rfl, hg, hc⟩ := HP.out (by omega)
      obtain ⟨c0, c1, hin⟩ := hc j hjn
      have HB : Hid (b j = b j) := Lib.hid rfl
      obtain ⟨p, hp⟩ : ∃ p, b j = p := ⟨_, rfl⟩
      have HPJ := Lib.hid hp
      rw [hp] at c0 c1 hin
      obtain ⟨key, Ab, nb, cb, Lb⟩ := p
      simp only [PArg.v] at c0 c1
      have hlen := hin.1.1
      simp only at hlen
      have hwj : IntKind.i64.wrap ((j : Int) + 1) = (j : Int) + 1 := IntWalk.i64_in _ (by omega)
      clear hc hp hin
      have HBAD : Hid (¬ okP ⟨key, Ab, nb, cb, Lb⟩ → decide (RightL b n) = false) := Lib.hid fun h => decide_eq_false fun h2 => h (HPJ.out ▸ h2.1 j hjn)
      by_cases h1 : key < 0
      · have hbad := HBAD.out (fun h => by have := h.1.1; simp only at this; omega)
        have HBD := Lib.hid hbad
        clear hbad
        go_wp2
        go_ret
        refine ⟨by rw [HBD.out]; rfl, ?_⟩
        first | rfl | trivial
      · by_cases h2 : 16777216 ≤ key
        · have hbad := HBAD.out (fun h => by have := h.1.2; simp only at this; omega)
          have HBD := Lib.hid hbad
          clear hbad
          have hd1 : decide (key < 0) = false := decide_eq_false h1
          go_wp2
          go_ret
          refine ⟨by rw [HBD.out]; rfl, ?_⟩
          first | rfl | trivial
        · have hd1 : decide (key < 0) = false := decide_eq_false h1
          have hd2 : decide ((16777216 : Int) ≤ key) = false := decide_eq_false h2
          by_cases h3 : 256 < nb
          · have hbad := HBAD.out (fun h => by have := h.2; simp only at this; omega)
            have HBD := Lib.hid hbad
            have hd3 : decide ((256 : Int) < (nb : Int)) = true := decide_eq_true (by omega)
            clear hbad
            go_wp2
            go_ret
            refine ⟨by rw [HBD.out]; rfl, ?_⟩
            first | rfl | trivial
          · have hd3 : decide ((256 : Int) < (nb : Int)) = false := decide_eq_false (by omega)
            have HOKJ : Hid (okP ⟨key, Ab, nb, cb, Lb⟩) := Lib.hid ⟨⟨by show 0 ≤ key; omega, by show key < _; omega⟩, by show Lb.length ≤ 256; omega⟩
            clear HBAD
            go_wp2
            go_roundw
            case rel =>
              refine ⟨j + 1, by omega, by go_num, by first | rfl | trivial, fun k hk => ?_⟩
              rcases Nat.lt_or_ge k j with h | h
              · exact HOK.out k h
              · obtain rfl : k = j := by omega
                rw [HPJ.out]; exact HOKJ.out
            case measure => simp [intOf]; omega
    · obtain rfl : j = n := by omega
      have hdr : decide (RightL b j) = decide ((j : Int) ≤ 100) := by
        by_cases h : j ≤ 100
        · rw [decide_eq_true (show RightL b j from ⟨HOK.out, h⟩), decide_eq_true (by omega)]
        · rw [decide_eq_false (fun h2 : RightL b j => h h2.2), decide_eq_false (by omega)]
      have HDR := Lib.hid hdr
      clear hdr
      go_wp2
      go_ret
      refine ⟨by rw [HDR.out]; rfl, ?_⟩
      first | rfl | trivial
end Go.Proofs.Ytgkdggidgaifhaa
namespace Go.Proofs.Ytgkdggidgaifhaa
open Go.RowKit Go.Maps Go.MapKept
open Go.ChangeMaps (setBlock)
set_option linter.unusedVariables false
set_option linter.unusedSimpArgs false

open Classical in
theorem filter_len {m : Mp} {ps : Ps} (h : Lst m ps) (k : Nat) : (ps.filter fun x => decide (x.1 ≠ k)).length = if (m k).isSome then ps.length - 1 else ps.length := by
  have hu := h.up
  have hm : ∀ v, (k, v) ∈ ps ↔ m k = some v := fun v => h.mem k v
  have key : ∀ (qs : Ps), qs.Pairwise (fun a b => a.1 < b.1) → (qs.filter fun x => decide (x.1 ≠ k)).length = if (∃ v, (k, v) ∈ qs) then qs.length - 1 else qs.length := by
    intro qs
    induction qs with
    | nil => intro _; simp
    | cons y qs ih =>
      intro hp
      obtain ⟨h1, h2⟩ := List.pairwise_cons.1 hp
      have ih2 := ih h2
      by_cases e : y.1 = k
      · have hno : ¬ ∃ v, (k, v) ∈ qs := fun ⟨v, hv⟩ => by have := h1 _ hv; simp only at this; omega
        rw [if_neg hno] at ih2
        rw [List.filter_cons, if_neg (by simp [e]), ih2, if_pos ⟨y.2, by rw [← e]; exact List.mem_cons_self ..⟩]
        simp
      · rw [List.filter_cons, if_pos (by simpa using e), List.length_cons, ih2]
        have he : (∃ v, (k, v) ∈ y :: qs) ↔ ∃ v, (k, v) ∈ qs := by
          constructor
          · rintro ⟨v, hv⟩
            rcases List.mem_cons.1 hv with hv | hv
            · exact absurd (by rw [← hv]) e
            · exact ⟨v, hv⟩
          · rintro ⟨v, hv⟩
            exact ⟨v, List.mem_cons_of_mem _ hv⟩
        by_cases hq : ∃ v, (k, v) ∈ qs
        · rw [if_pos hq, if_pos (he.2 hq)]
          obtain ⟨v, hv⟩ := hq
          have := List.length_pos_of_mem hv
          simp only [List.length_cons]
          omega
        · rw [if_neg hq, if_neg (fun h => hq (he.1 h))]
          simp
  rw [key ps hu]
  by_cases hk : (m k).isSome = true
  · rw [if_pos hk, if_pos]
    obtain ⟨v, hv⟩ := Option.isSome_iff_exists.1 hk
    exact ⟨v, (hm v).2 hv⟩
  · rw [if_neg hk, if_neg]
    rintro ⟨v, hv⟩
    exact hk (by rw [(hm v).1 hv]; rfl)
theorem GMap.del {w : World} {b c : Nat} {m : Mp} (h : GMap w b m c) {key : Nat} (hk : key < 16777216) (ty : TypeId) :
    ∃ w', (Builtin.delete_ #[31, 3] ty #[.map (some b), .int .i64 (key : Nat)]).run Try.prog w = .ok (.tuple #[]) w' ∧ GMap w' b (upd m key none) (if (m key).isSome then c - 1 else c) ∧ Off (· = b) w w' := by
  obtain ⟨w', h1, h2, h3⟩ := MapIs.del h intKeyed Try.underlying31 (key := .int .i64 (key : Nat)) (keyOf_int_mk Try.underlying3 (int_wf (by omega))) ty
  rw [gmF_del] at h2
  refine ⟨w', h1, ?_, h3⟩
  have e : (gmF m (.int .i64 (key : Nat))).isSome = (m key).isSome := by simp [gmF, intOfV, mI_nat]
  rw [e] at h2
  exact h2
def mpZ (m : Mp) (b : Nat → PArg) : Nat → Mp
  | 0 => m
  | j + 1 => upd (mpZ m b j) (b j).key.toNat (if (b j).L = [] then none else some (b j).L)
/-- A map that may be nil. -/
def MapV (w : World) (mv : Value) (m : Mp) (c : Nat) : Prop := (mv = .map none ∧ (m = fun _ => none) ∧ c = 0) ∨ ∃ b, mv = .map (some b) ∧ GMap w b m c
/-- What lies apart from the sink and the tree is kept; what the sink told it tells. -/
structure StEv (w V : World) (T : Nat) (O O' : Nat → Prop) (st st' : ShS × Int) : Prop where
  off : Off (OT O T) w V
  hO : ∀ k, O' k → O k ∨ w.heap.size ≤ k
  sub : SubR (shRd st.1.L) (shRd st'.1.L)
section
variable {W w w' V V' V1 : World} {S T g Mb : Nat} {O O' O2 : Nat → Prop} {st st' st2 : ShS × Int} {r r' r2 : Int × Int} {m : Mp} {ps : Ps} {n N : Nat} {G : Rdr → Int × Int → Prop} {e : Ending}
theorem StEv.refl (w : World) (T : Nat) (O : Nat → Prop) (st : ShS × Int) : StEv w w T O O st st := ⟨Off.refl _ _, fun k e => .inl e, SubR.refl _⟩
theorem StEv.up (h : StEv w V T O O' st st') (hb : Below V.heap.size V V') : StEv w V' T O O' st st' := ⟨h.off.step hb, h.hO, h.sub⟩
theorem StEv.own (h : StEv w V T O O' st st') {P : Nat → Prop} (ho : Off P V V') (hP : ∀ k, P k → w.heap.size ≤ k) : StEv w V' T O O' st st' := ⟨h.off.late ho fun i hl e => by have := hP i e; omega, h.hO, h.sub⟩
theorem StEv.set (h : StEv w V T O O' st st') (hb : Below V.heap.size V V1) (k : SetOk W V1 V' S T O' O2 st' st2 n N G r' e) : StEv w V' T O O2 st st2 := by
  obtain ⟨j, _, ha⟩ := k.aft
  have hs := h.off.size
  have hs1 := hb.size
  refine ⟨(h.off.step hb).late k.off fun i hl hi => ?_, fun i hi => ?_, h.sub.trans ha.sub⟩
  · rcases hi with e | e
    · rcases h.hO i e with e | e
      · exact .inl e
      · omega
    · exact .inr e
  · rcases k.hO i hi with e | e
    · exact h.hO i e
    · exact .inr (by omega)
theorem StEv.trans (h : StEv w V T O O' st st') (k : StEv V V' T O' O2 st' st2) : StEv w V' T O O2 st st2 := by
  have hs := h.off.size
  refine ⟨h.off.late k.off fun i hl hi => ?_, fun i hi => ?_, h.sub.trans k.sub⟩
  · rcases hi with e | e
    · rcases h.hO i e with e | e
      · exact .inl e
      · omega
    · exact .inr e
  · rcases k.hO i hi with e | e
    · exact h.hO i e
    · exact .inr (by omega)
/-- The map loses a key. -/
theorem MtAt.del (h : MtAt W w S T g Mb O st r m ps) {key : Nat} (hk : key < 16777216) (ty : TypeId) :
    ∃ w', (Builtin.delete_ #[31, 3] ty #[.map (some Mb), .int .i64 (key : Nat)]).run Try.prog w = .ok (.tuple #[]) w' ∧ MtAt W w' S T g Mb O st r (upd m key none) (ps.filter fun x => decide (x.1 ≠ key)) ∧ Off (· = Mb) w w' := by
  obtain ⟨w', h1, h2, h3⟩ := h.mp.del hk ty
  refine ⟨w', h1, ⟨h.rt.offW h3 (fun k e => by rw [e]; exact ⟨h.oM, h.geM, h.neM⟩), ?_, h.lst.del key, h.oM, h.geM, h.neM⟩, h3⟩
  rw [filter_len h.lst key]
  exact h2
def Kp4 (w : World) (g5 : Nat) (a b : Int) (g o : Nat) (x y : Value) : Prop := w.cell? ⟨g5, 0, none⟩ = some (.int .i64 a) ∧ w.cell? ⟨g5, 1, none⟩ = some (.int .i64 b) ∧ w.cell? ⟨g, o, none⟩ = some x ∧ w.cell? ⟨g, o + 1, none⟩ = some y
theorem Kp4.off {P : Nat → Prop} {g5 g o : Nat} {a b : Int} {x y : Value} (h : Kp4 w g5 a b g o x y) (ho : Off P w w') (h1 : ¬ P g5) (h2 : ¬ P g) : Kp4 w' g5 a b g o x y :=
  ⟨(ho.cell (p := ⟨g5, 0, none⟩) (lt_of_cell h.1) h1).trans h.1, (ho.cell (p := ⟨g5, 1, none⟩) (lt_of_cell h.1) h1).trans h.2.1, (ho.cell (p := ⟨g, o, none⟩) (lt_of_cell h.2.2.1) h2).trans h.2.2.1, (ho.cell (p := ⟨g, o + 1, none⟩) (lt_of_cell h.2.2.1) h2).trans h.2.2.2⟩
theorem Kp4.alloc {g5 g o : Nat} {a b : Int} {x y : Value} (h : Kp4 w g5 a b g o x y) (c : Array Value) (t : TypeId) : Kp4 (w.alloc (.cells c t)) g5 a b g o x y := h.off (P := fun _ => False) (Off.of_below ((Below.refl _ _).alloc (Nat.le_refl _) _)) id id
theorem Kp4.set {g5 g o g' : Nat} {a b : Int} {x y : Value} (h : Kp4 w g5 a b g o x y) (h1 : g5 ≠ g') (h2 : g ≠ g') (u v : Value) : Kp4 ((w.setCell ⟨g', 0, none⟩ u).setCell ⟨g', 1, none⟩ v) g5 a b g o x y :=
  h.off (P := (· = g')) (((Off.refl (· = g') w).setCell (p := ⟨g', 0, none⟩) rfl _).setCell (p := ⟨g', 1, none⟩) rfl _) h1 h2
/-- Behind a Set, the answer in a box: what set's round keeps. -/
structure MidAt (W w V : World) (S T g5 g8 g15 Mb : Nat) (O O' : Nat → Prop) (st st' : ShS × Int) (r r' : Int × Int) (m : Mp) (ps : Ps) : Prop where
  mt : MtAt W V S T g5 Mb O' st' r m ps
  rt : RtAt W V S T g15 O' st' r'
  ne : g15 ≠ g5 ∧ g15 ≠ Mb ∧ g15 ≠ g8
  ge : w.heap.size ≤ g15
  x8 : BoxA V g8 (0, 0)
  o8 : Out O' T g8
  ev : StEv w V T O O' st st'
theorem MidAt.ofA {g8 : Nat} (hm : MtAt W V S T g Mb O' st' r m ps) (hx : BoxA V g8 (0, 0)) (ho : Out O' T g8) (hev : StEv w V T O O' st st') (hb : Below V.heap.size V V1) (k : SetOk W V1 V' S T O' O2 st' st2 n N G r2 e) (t : TypeId) :
    MidAt W w (V'.alloc (.cells #[.int .i64 r2.1, .int .i64 r2.2] t)) S T g g8 V'.heap.size Mb O O2 st st2 r r2 m ps := by
  have h1 := (SetOk.mt hm hb k).boxA r2 t
  have hb2 : Below V'.heap.size V' (V'.alloc (.cells #[.int .i64 r2.1, .int .i64 r2.2] t)) := (Below.refl _ _).alloc (Nat.le_refl _) _
  have hx2 : BoxA V' g8 (0, 0) := (hx.off (S := fun _ => False) (Off.of_below hb) id).off k.off (fun e => e.elim ho.1 ho.2)
  have hl := hx2.lt
  have hev2 := hev.set hb k
  exact ⟨h1.1, h1.2.1, ⟨h1.2.2.1.symm, h1.2.2.2.symm, by omega⟩, hev2.off.size, hx2.off (S := fun _ => False) (Off.of_below hb2) id, out_next ho k.hO (Nat.lt_of_lt_of_le hx.lt hb.size), hev2.up hb2⟩
theorem MidAt.ofB {g8 g15 : Nat} {r0 : Int × Int} (hm : MtAt W V S T g Mb O' st' r m ps) (hx : BoxA V g8 (0, 0)) (ho : Out O' T g8) (hev : StEv w V T O O' st st') (hb : Below V.heap.size V V1) (k : SetOk W V1 V' S T O' O2 st' st2 n N G r2 e) (h15 : BoxA V' g15 r0) (o15 : Out O2 T g15) (hg : g15 = V.heap.size) :
    MidAt W w ((V'.setCell ⟨g15, 0, none⟩ (.int .i64 r2.1)).setCell ⟨g15, 1, none⟩ (.int .i64 r2.2)) S T g g8 g15 Mb O O2 st st2 r r2 m ps := by
  have lg := hm.rt.box.lt
  have lM := MapIs.lt hm.mp
  have hW := hm.rt.l.bel.size
  have h1 := (SetOk.mt hm hb k).boxB h15 o15 (by omega) (by omega) (by omega) r2
  have hx2 : BoxA V' g8 (0, 0) := (hx.off (S := fun _ => False) (Off.of_below hb) id).off k.off (fun e => e.elim ho.1 ho.2)
  have hl := hx.lt
  have hs := hev.off.size
  have hst := h15.set r2
  exact ⟨h1.1, h1.2.1, ⟨by omega, by omega, by omega⟩, by omega, hx2.off hst.2 (by show ¬ g8 = g15; omega), out_next ho k.hO (Nat.lt_of_lt_of_le hx.lt hb.size), (hev.set hb k).own hst.2 (fun k e => by rw [e]; omega)⟩
theorem MidAt.up {g8 g15 : Nat} (h : MidAt W w V S T g g8 g15 Mb O O' st st' r r' m ps) (hb : Below V.heap.size V V') : MidAt W w V' S T g g8 g15 Mb O O' st st' r r' m ps :=
  ⟨h.mt.up hb, h.rt.up hb, h.ne, h.ge, h.x8.off (S := fun _ => False) (Off.of_below hb) id, h.o8, h.ev.up hb⟩
/-- The map is told of a pair. -/
theorem MidAt.put {g8 g15 : Nat} (h : MidAt W w V S T g g8 g15 Mb O O' st st' r r' m ps) (hM : w.heap.size ≤ Mb) (n8 : g8 ≠ Mb) {key : Nat} (hk : key < 16777216) (L : Bytes) :
    ∃ w', (Instr.mapUpdate 31 (.map (some Mb)) (.int .i64 (key : Nat)) (.string (strB L))).run Try.prog V = .ok () w' ∧ MidAt W w w' S T g g8 g15 Mb O O' st st' r r' (upd m key (some L)) (insP key L ps) := by
  obtain ⟨w', h1, h2, h3⟩ := h.mt.put hk L
  exact ⟨w', h1, h2, RtAt.offW h.rt h3 (fun k e => by rw [e]; exact ⟨h.mt.oM, h.mt.geM, h.ne.2.1.symm⟩), h.ne, h.ge, h.x8.off h3 n8, h.o8, h.ev.own h3 (fun k e => by rw [e]; exact hM)⟩
theorem MidAt.del {g8 g15 : Nat} (h : MidAt W w V S T g g8 g15 Mb O O' st st' r r' m ps) (hM : w.heap.size ≤ Mb) (n8 : g8 ≠ Mb) {key : Nat} (hk : key < 16777216) (ty : TypeId) :
    ∃ w', (Builtin.delete_ #[31, 3] ty #[.map (some Mb), .int .i64 (key : Nat)]).run Try.prog V = .ok (.tuple #[]) w' ∧ MidAt W w w' S T g g8 g15 Mb O O' st st' r r' (upd m key none) (ps.filter fun x => decide (x.1 ≠ key)) := by
  obtain ⟨w', h1, h2, h3⟩ := h.mt.del hk ty
  exact ⟨w', h1, h2, RtAt.offW h.rt h3 (fun k e => by rw [e]; exact ⟨h.mt.oM, h.mt.geM, h.ne.2.1.symm⟩), h.ne, h.ge, h.x8.off h3 n8, h.o8, h.ev.own h3 (fun k e => by rw [e]; exact hM)⟩
/-- Behind a Delete, the answer in the same box. -/
theorem MidAt.redo {g8 g15 : Nat} (h : MidAt W w V S T g g8 g15 Mb O O' st st' r r' m ps) (hb : Below V.heap.size V V1) (k : SetOk W V1 V' S T O' O2 st' st2 n N G r2 e) :
    MidAt W w ((V'.setCell ⟨g15, 0, none⟩ (.int .i64 r2.1)).setCell ⟨g15, 1, none⟩ (.int .i64 r2.2)) S T g g8 g15 Mb O O2 st st2 r r2 m ps := by
  have hr := k.rt h.rt hb
  have h1 := (SetOk.mt h.mt hb k).boxB hr.box hr.out h.rt.ge h.ne.1 h.ne.2.1 r2
  have hx2 : BoxA V' g8 (0, 0) := (h.x8.off (S := fun _ => False) (Off.of_below hb) id).off k.off (fun e => e.elim h.o8.1 h.o8.2)
  have hst := hr.box.set r2
  exact ⟨h1.1, h1.2.1, h.ne, h.ge, hx2.off hst.2 (fun e => h.ne.2.2 e.symm), out_next h.o8 k.hO (Nat.lt_of_lt_of_le h.x8.lt hb.size), (h.ev.set hb k).own hst.2 (fun k e => by rw [e]; exact h.ge)⟩
/-- The root's box takes the answer. -/
theorem MidAt.root {g8 g15 : Nat} (h : MidAt W w V S T g g8 g15 Mb O O' st st' r r' m ps) (hg : w.heap.size ≤ g) (n8 : g8 ≠ g) : MtAt W ((V.setCell ⟨g, 0, none⟩ (.int .i64 r'.1)).setCell ⟨g, 1, none⟩ (.int .i64 r'.2)) S T g Mb O' st' r' m ps ∧ BoxA ((V.setCell ⟨g, 0, none⟩ (.int .i64 r'.1)).setCell ⟨g, 1, none⟩ (.int .i64 r'.2)) g8 (0, 0) ∧ StEv w ((V.setCell ⟨g, 0, none⟩ (.int .i64 r'.1)).setCell ⟨g, 1, none⟩ (.int .i64 r'.2)) T O O' st st' := by
  have hst := h.mt.rt.box.set r'
  exact ⟨h.mt.root r', h.x8.off hst.2 n8, h.ev.own hst.2 (fun k e => by rw [e]; exact hg)⟩
theorem upd_upd (m : Mp) (k : Nat) (a b : Option Bytes) : upd (upd m k a) k b = upd m k b := by
  funext x
  by_cases e : x = k
  · subst e; rw [upd_same, upd_same]
  · rw [upd_other _ _ _ e, upd_other _ _ _ e, upd_other _ _ _ e]
end
end Go.Proofs.Ytgkdggidgaifhaa
namespace Go.Proofs.Ytgkdggidgaifhaa
open Go.RowKit Go.Maps Go.MapKept
open Go.ChangeMaps (setBlock)
set_option linter.unusedVariables false
set_option linter.unusedSimpArgs false

theorem gmF_inv {m : Mp} {key val : Value} (h : gmF m key = some val) : ∃ (k : Nat) (v : Bytes), key = .int .i64 (k : Nat) ∧ m k = some v ∧ val = .string (strB v) := by
  unfold gmF at h
  cases e : intOfV key with
  | none => rw [e] at h; cases h
  | some k =>
    rw [e] at h
    simp only [Option.bind_some] at h
    obtain rfl := intOfV_inv e
    unfold mI at h
    by_cases hk : 0 ≤ k
    · rw [if_pos hk] at h
      obtain ⟨v, hv, rfl⟩ := Option.map_eq_some_iff.1 h
      exact ⟨k.toNat, v, by rw [Int.toNat_of_nonneg hk], hv, rfl⟩
    · rw [if_neg hk] at h; cases h
open Classical in
/-- How many of what is left are so. -/
noncomputable def cntL (ps : Ps) (pr : Nat × Bytes → Bool) (left : Value → Prop) : Nat := (ps.filter fun x => decide (left (.int .i64 (x.1 : Nat))) && pr x).length
theorem cntL_all (ps : Ps) (pr : Nat × Bytes → Bool) : cntL ps pr (fun _ => True) = (ps.filter pr).length := by
  unfold cntL
  congr 1
  exact List.filter_congr fun x _ => by simp
theorem cntL_none {m : Mp} {ps : Ps} (h : Lst m ps) (pr : Nat × Bytes → Bool) {left : Value → Prop} (hn : ∀ key v, gmF m key = some v → ¬ left key) : cntL ps pr left = 0 := by
  unfold cntL
  rw [List.length_eq_zero_iff, List.filter_eq_nil_iff]
  rintro ⟨k, v⟩ hx
  have hv := (h.mem k v).1 hx
  have := hn (.int .i64 (k : Nat)) (.string (strB v)) (by simp [gmF, intOfV, mI_nat, hv])
  simp [this]
open Classical in
theorem cntL_step {m : Mp} {ps : Ps} (h : Lst m ps) (pr : Nat × Bytes → Bool) {left : Value → Prop} {k : Nat} {v : Bytes} (hk : m k = some v) (hl : left (.int .i64 (k : Nat))) :
    cntL ps pr left = cntL ps pr (fun x => left x ∧ x ≠ .int .i64 (k : Nat)) + if pr (k, v) then 1 else 0 := by
  have key : ∀ l : Ps, l.Pairwise (fun a b => a.1 < b.1) → (∀ x ∈ l, x.1 = k → x = (k, v)) → cntL l pr left = cntL l pr (fun x => left x ∧ x ≠ .int .i64 (k : Nat)) + if (k, v) ∈ l ∧ pr (k, v) = true then 1 else 0 := by
    intro l
    induction l with
    | nil => intro _ _; simp [cntL]
    | cons x l ih =>
      intro hu hx
      obtain ⟨h1, h2⟩ := List.pairwise_cons.1 hu
      have ih := ih h2 (fun y hy => hx y (List.mem_cons_of_mem _ hy))
      unfold cntL at ih ⊢
      simp only [List.filter_cons]
      by_cases e : x.1 = k
      · have hxe := hx x (by simp) e
        subst hxe
        have hnm : (k, v) ∉ l := fun hm => by have := h1 _ hm; simp at this
        rw [if_neg (fun h => hnm h.1)] at ih
        have e1 : ∀ i : Decidable (left (.int .i64 (((k, v) : Nat × Bytes).1 : Nat)) ∧ (Value.int .i64 (((k, v) : Nat × Bytes).1 : Nat)) ≠ .int .i64 (k : Nat)), @decide _ i = false := fun i => decide_eq_false fun h => h.2 rfl
        have e2 : ∀ i : Decidable (left (.int .i64 (((k, v) : Nat × Bytes).1 : Nat))), @decide _ i = true := fun i => decide_eq_true hl
        rw [e1, e2]
        simp only [Bool.true_and, Bool.false_and, Bool.false_eq_true, if_false, List.mem_cons, true_or, true_and]
        split
        · rw [List.length_cons, ih]
        · rw [ih]
      · have e1 : ∀ i : Decidable (left (.int .i64 (x.1 : Nat)) ∧ (Value.int .i64 (x.1 : Nat)) ≠ .int .i64 (k : Nat)), @decide _ i = decide (left (.int .i64 (x.1 : Nat))) := fun i => by
          have : (Value.int .i64 (x.1 : Nat)) ≠ .int .i64 (k : Nat) := fun h => e (by injection h with _ h; omega)
          by_cases hlx : left (.int .i64 (x.1 : Nat))
          · rw [decide_eq_true hlx, decide_eq_true ⟨hlx, this⟩]
          · rw [decide_eq_false hlx, decide_eq_false fun h => hlx h.1]
        have e3 : ((k, v) ∈ x :: l ∧ pr (k, v) = true) ↔ ((k, v) ∈ l ∧ pr (k, v) = true) := by
          rw [List.mem_cons]
          constructor
          · rintro ⟨h | h, h3⟩
            · exact absurd (by rw [← h]) e
            · exact ⟨h, h3⟩
          · rintro ⟨h, h3⟩; exact ⟨.inr h, h3⟩
        rw [e1]
        simp only [e3]
        split
        · rw [List.length_cons, List.length_cons, ih]; exact Nat.add_right_comm _ _ _
        · exact ih
  rw [key ps h.up (fun x hx e => by
    obtain ⟨a, b⟩ := x
    simp only at e
    subst e
    have := (h.mem a b).1 hx
    rw [hk] at this
    cases this
    rfl)]
  have hm : (k, v) ∈ ps := (h.mem k v).2 hk
  simp [hm]
def pr1 (m' : Mp) (x : Nat × Bytes) : Bool := decide (m' x.1 ≠ some x.2)
def pr2 (m : Mp) (x : Nat × Bytes) : Bool := decide (m x.1 = none)
/-- What changed counts. -/
def ChdPost (w : World) (n : Nat) (e : Ending) (w' : World) : Prop := e = .returned (.int .i64 (n : Nat)) ∧ Below w.heap.size w w'
set_option maxRecDepth 100000 in
set_option maxHeartbeats 4000000 in
theorem changed_any {w : World} {B1 B2 : Nat} {m m' : Mp} {ps qs : Ps} (h1 : GMap w B1 m ps.length) (h2 : GMap w B2 m' qs.length) (hp : Lst m ps) (hq : Lst m' qs) (hl1 : ps.length ≤ 149796) (hl2 : qs.length ≤ 149796) (hk1 : ∀ k, m k ≠ none → k < 16777216) (hk2 : ∀ k, m' k ≠ none → k < 16777216) :
    Calls Try.prog 12 #[.map (some B1), .map (some B2)] w (ChdPost w ((ps.filter (pr1 m')).length + (qs.filter (pr2 m)).length)) := by
  have H1 := Lib.hid h1
  have H2 := Lib.hid h2
  have HP := Lib.hid hp
  have HQ := Lib.hid hq
  have HL := Lib.hid (And.intro hl1 hl2)
  have HK1 := Lib.hid hk1
  have HK2 := Lib.hid hk2
  have l1 := MapIs.lt h1
  have l2 := MapIs.lt h2
  obtain ⟨w2, hr2, hit, hb2⟩ := MapIs.range h1 Try.underlying31
  have HIT := Lib.hid hit
  have HB2 := Lib.hid hb2
  have HF1 : Hid ((ps.filter (pr1 m')).length ≤ ps.length) := Lib.hid (List.length_filter_le _ _)
  have HF2 : Hid ((qs.filter (pr2 m)).length ≤ qs.length) := Lib.hid (List.length_filter_le _ _)
  clear h1 h2 hp hq hl1 hl2 hit hb2 hk1 hk2
  obtain ⟨gi, hgi⟩ : ∃ g, w.heap.size = g := ⟨_, rfl⟩
  rw [hgi] at hr2 HIT l1 l2
  have HGI := Lib.hid hgi
  clear hgi
  go_enter Try.func12, Try.ntmps12
  go_upto_region 1 with (fail)
  go_cut [5] from 5 to 5 (fun s5 V => s5 = .int .i64 0 ∧ V = w)
  case first =>
    go_wp2_with fail
    go_meet
    exact ⟨rfl, rfl⟩
  case rest =>
  obtain ⟨rfl, rfl⟩ := hcut
  rename_i K1 hK1
  refine hK1 _ _ ?_
  clear hK1 K1
  refine Go.wp_seq_k (fun K2 hK2 => ?_)
  go_cut [5] from 6 to 34 (fun s5 V => s5 = .int .i64 ((ps.filter (pr1 m')).length : Nat) ∧ Off (fun _ => False) wc V)
  case first =>
    go_wp2_with fail
    go_loopw [5] (fun s5 wr => ∃ (left : Value → Prop) (cnt k : Nat), s5 = .int .i64 (k : Nat) ∧ ItIs Try.prog 3 wr B1 gi (gmF m) left cnt ∧ k + cntL ps (pr1 m') left = (ps.filter (pr1 m')).length ∧ Off (fun _ => False) wc wr) (fun _ wr => wr.rangeLeft B1 gi)
    case atStart => exact ⟨_, _, 0, rfl, HIT.out, by rw [cntL_all]; omega, Off.of_below HB2.out⟩
    case round =>
      obtain ⟨left, cnt, k, rfl, hit, hcd, hof⟩ := hrel
      have HIT2 := Lib.hid hit
      have HOF2 := Lib.hid hof
      have hm2 := H2.out.off hof id
      have hnx := hit.next (by omega)
      clear hit hof HIT hr2 HB2
      rcases hnx with ⟨h0, hno, hrun⟩ | ⟨key, val, w3, hf, hlf, hpos, ⟨kl, hkl⟩, hrun, ho, hs3, hit3, hent⟩
      · have hz := cntL_none HP.out (pr1 m') hno
        clear hno
        rw [hz, Nat.add_zero] at hcd
        have HCD := Lib.hid hcd
        clear hz hcd
        go_wp2
        go_meet
        exact ⟨by rw [HCD.out], HOF2.out⟩
      · obtain ⟨kn, v, rfl, hmk, rfl⟩ := gmF_inv hf
        have hst := cntL_step HP.out (pr1 m') hmk hlf
        have hm3 := hm2.off ho (by have := HGI.out; have := MapIs.lt hm2; omega)
        have hlk := hm3.look (key := (kn : Int)) (by have := HK1.out kn (by rw [hmk]; simp); omega)
        rw [mI_nat] at hlk
        have HIT3 := Lib.hid hit3
        have HOF3 : Hid (Off (fun _ => False) wc w3) := Lib.hid (HOF2.out.late ho fun i hl e => by have := HGI.out; omega)
        have HST := Lib.hid hst
        have HCD := Lib.hid hcd
        have hwk : IntKind.i64.wrap ((k : Int) + 1) = (k : Int) + 1 := IntWalk.i64_in _ (by have := HF1.out; have := HL.out; omega)
        clear hit3 ho hf hlf hkl hm2 hm3 hst hcd
        cases hmk2 : m' kn with
        | none =>
          rw [hmk2] at hlk
          simp only [Option.getD_none, Option.isSome_none] at hlk
          have hst := HST.out
          rw [if_pos (by simp [pr1, hmk2])] at hst
          have HS2 := Lib.hid (show k + 1 + cntL ps (pr1 m') (fun x => left x ∧ x ≠ .int .i64 (kn : Nat)) = (ps.filter (pr1 m')).length by have := HCD.out; omega)
          clear hst HST HCD
          go_wp2
          go_roundw
          case rel => exact ⟨_, _, k + 1, by go_num, HIT3.out, HS2.out, HOF3.out⟩
          case measure => rw [HIT3.out.left_eq, HIT2.out.left_eq]; omega
        | some v' =>
          rw [hmk2] at hlk
          simp only [Option.getD_some, Option.isSome_some] at hlk
          have hse := strB_eq v v'
          by_cases hvv : v = v'
          · rw [decide_eq_true hvv] at hse
            have hpf : ¬ pr1 m' (kn, v) = true := by simp [pr1, hmk2, hvv]
            clear hvv hmk2
            have hst := HST.out
            rw [if_neg (hpf)] at hst
            have HS2 := Lib.hid (show k + cntL ps (pr1 m') (fun x => left x ∧ x ≠ .int .i64 (kn : Nat)) = (ps.filter (pr1 m')).length by have := HCD.out; omega)
            clear hst HST HCD
            go_wp2
            go_roundw
            case rel => exact ⟨_, _, k, rfl, HIT3.out, HS2.out, HOF3.out⟩
            case measure => rw [HIT3.out.left_eq, HIT2.out.left_eq]; omega

          · rw [decide_eq_false hvv] at hse
            have hpf : pr1 m' (kn, v) = true := by simp [pr1, hmk2]; exact fun e => hvv e.symm
            clear hvv hmk2
            have hst := HST.out
            rw [if_pos (hpf)] at hst
            have HS2 := Lib.hid (show k + 1 + cntL ps (pr1 m') (fun x => left x ∧ x ≠ .int .i64 (kn : Nat)) = (ps.filter (pr1 m')).length by have := HCD.out; omega)
            clear hst HST HCD
            go_wp2
            go_roundw
            case rel => exact ⟨_, _, k + 1, by go_num, HIT3.out, HS2.out, HOF3.out⟩
            case measure => rw [HIT3.out.left_eq, HIT2.out.left_eq]; omega

  case rest =>
  obtain ⟨rfl, hof⟩ := hcut
  have HOF := Lib.hid hof
  have hm1 := H1.out.off hof id
  have hm2 := H2.out.off hof id
  obtain ⟨w4, hr4, hit, hb4⟩ := MapIs.range hm2 Try.underlying31
  have HM1 := Lib.hid hm1
  have HIT4 := Lib.hid hit
  have HB4 := Lib.hid hb4
  have hl4 := MapIs.lt hm2
  clear hof hm1 hm2 hit hb4
  obtain ⟨gj, hgj⟩ : ∃ g, wc.heap.size = g := ⟨_, rfl⟩
  rw [hgj] at hr4 HIT4 hl4
  have HGJ := Lib.hid hgj
  clear hgj HF2
  have HF2 : Hid ((qs.filter (pr2 m)).length ≤ qs.length) := Lib.hid (List.length_filter_le _ _)
  refine hK2 _ _ ?_
  clear hK2 K2
  go_wp2_with fail
  go_loopw [5] (fun s5 wr => ∃ (left : Value → Prop) (cnt k : Nat), s5 = .int .i64 (k : Nat) ∧ ItIs Try.prog 3 wr B2 gj (gmF m') left cnt ∧ k + cntL qs (pr2 m) left = (ps.filter (pr1 m')).length + (qs.filter (pr2 m)).length ∧ Off (fun _ => False) wc wr) (fun _ wr => wr.rangeLeft B2 gj)
  case atStart => exact ⟨_, _, _, rfl, HIT4.out, by rw [cntL_all], Off.of_below HB4.out⟩
  case round =>
    obtain ⟨left, cnt, k, rfl, hit, hcd, hof⟩ := hrel
    have HIT2 := Lib.hid hit
    have HOF2 := Lib.hid hof
    have hm2 := HM1.out.off hof id
    have hnx := hit.next (by omega)
    clear hit hof HIT4 hr4 HB4
    rcases hnx with ⟨h0, hno, hrun⟩ | ⟨key, val, w3, hf, hlf, hpos, ⟨kl, hkl⟩, hrun, ho, hs3, hit3, hent⟩
    · have hz := cntL_none HQ.out (pr2 m) hno
      clear hno
      rw [hz, Nat.add_zero] at hcd
      have HCD := Lib.hid hcd
      clear hz hcd
      go_wp2
      go_ret
      rw [← HCD.out]
      have hall := (HOF.out.trans HOF2.out)
      exact ⟨rfl, hall.below (fun _ => False.elim) (Nat.le_refl _)⟩
    · obtain ⟨kn, v, rfl, hmk, rfl⟩ := gmF_inv hf
      have hst := cntL_step HQ.out (pr2 m) hmk hlf
      have hm3 := hm2.off ho (by have := HGJ.out; have := MapIs.lt HM1.out; omega)
      have hlk := hm3.look (key := (kn : Int)) (by have := HK2.out kn (by rw [hmk]; simp); omega)
      rw [mI_nat] at hlk
      have HIT3 := Lib.hid hit3
      have HOF3 : Hid (Off (fun _ => False) wc w3) := Lib.hid (HOF2.out.late ho fun i hl e => by have := HGJ.out; omega)
      have HST := Lib.hid hst
      have HCD := Lib.hid hcd
      have hwk : IntKind.i64.wrap ((k : Int) + 1) = (k : Int) + 1 := IntWalk.i64_in _ (by have := HF1.out; have := HF2.out; have := HL.out; omega)
      clear hit3 ho hf hlf hkl hm2 hm3 hst hcd
      cases hmk2 : m kn with
      | none =>
        rw [hmk2] at hlk
        simp only [Option.getD_none, Option.isSome_none] at hlk
        have hpf : pr2 m (kn, v) = true := by simp [pr2, hmk2]
        clear hmk2
        have hst := HST.out
        rw [if_pos (hpf)] at hst
        have HS2 := Lib.hid (show k + 1 + cntL qs (pr2 m) (fun x => left x ∧ x ≠ .int .i64 (kn : Nat)) = (ps.filter (pr1 m')).length + (qs.filter (pr2 m)).length by have := HCD.out; omega)
        clear hst HST HCD
        go_wp2
        go_roundw
        case rel => exact ⟨_, _, k + 1, by go_num, HIT3.out, HS2.out, HOF3.out⟩
        case measure => rw [HIT3.out.left_eq, HIT2.out.left_eq]; omega

      | some v' =>
        rw [hmk2] at hlk
        simp only [Option.getD_some, Option.isSome_some] at hlk
        have hpf : ¬ pr2 m (kn, v) = true := by simp [pr2, hmk2]
        clear hmk2
        have hst := HST.out
        rw [if_neg (hpf)] at hst
        have HS2 := Lib.hid (show k + cntL qs (pr2 m) (fun x => left x ∧ x ≠ .int .i64 (kn : Nat)) = (ps.filter (pr1 m')).length + (qs.filter (pr2 m)).length by have := HCD.out; omega)
        clear hst HST HCD
        go_wp2
        go_roundw
        case rel => exact ⟨_, _, k, rfl, HIT3.out, HS2.out, HOF3.out⟩
        case measure => rw [HIT3.out.left_eq, HIT2.out.left_eq]; omega

end Go.Proofs.Ytgkdggidgaifhaa
namespace Go.Proofs.Ytgkdggidgaifhaa
open Go.RowKit
set_option linter.unusedVariables false
set_option linter.unusedSimpArgs false

def mpK : Mp := upd mp1 9 (some [b8 121])
theorem mp1_lst : Lst mp1 [(5, [b8 120])] := Lst.nil.set 5 [b8 120]
theorem mpK_lst : Lst mpK [(5, [b8 120]), (9, [b8 121])] := mp1_lst.set 9 [b8 121]
set_option maxRecDepth 100000 in
set_option maxHeartbeats 4000000 in
theorem known12_any (W : World) : Calls Try.prog 7 #[] W fun e w' => e = .returned (.bool true) ∧ Below W.heap.size W w' := by
  go_enter Try.func7, Try.ntmps7
  go_upto_region 2 with (first
    | (go_at_call 10; refine (newShelf_any _).mono ?_; rintro e w1 hsh; have he1 := hsh.1; subst he1; have HSH := Lib.hid hsh; have HTN : Hid (Calls Try.prog 9 #[.iface 27 (.pointer (some ⟨W.heap.size, 0, none⟩))] w1 (TrNew (shM W.heap.size) w1 (· = W.heap.size) sh0)) := Lib.hid (treeNew_any (M := shM W.heap.size) (w := w1) (O := (· = W.heap.size)) (s := sh0) (show (shM W.heap.size).At w1 (· = W.heap.size) sh0 from hsh.2.2.2)); clear hsh)
    | (go_at_call 9; refine HTN.out.mono ?_; rintro e w2 htn; have he2 := htn.1; subst he2))
  have HL := Lib.hid (shl_new (Below.refl _ _) HSH.out htn)
  clear htn HTN HSH
  have HS1 := Lib.hid (shl_setlit HL.out (n := 63) (r := (0, 0)) (m := fun _ => none) (key := 5) (kI := 5) (sh0_rdy (by omega)) (by show (-1 : Int) < 0; omega) (.inl ⟨rfl, fun _ => rfl⟩) (by omega) rfl 120 (by omega))
  have hci := conv1 w2 120
  go_upto_region 4 with (fail)
  go_upto_region 5 with (go_at_call 22; refine HS1.out.mono ?_; rintro e w3 ⟨O3, st3, ⟨r3a, r3b⟩, hs⟩; have he3 := hs.e; subst he3; have HS3 := Lib.hid hs; clear hs HS1 HL hci)
  have HB3 := Lib.hid (HS3.out.l.box (r3a, r3b) 30)
  refine wp_forget (fun V => ShL W V W.heap.size w1.heap.size O3 st3 ∧ BoxA V w3.heap.size (r3a, r3b) ∧ Out O3 w1.heap.size w3.heap.size) HB3.out ?_
  rintro V ⟨hL, hB, hO⟩
  have HL4 := Lib.hid hL
  have HB4 := Lib.hid hB
  have HO4 := Lib.hid hO
  have b0 := hB.1
  have b1 := hB.2.1
  simp only at b0 b1
  have lb := hB.lt
  have HS1 := Lib.hid (shl_setlit HL4.out (n := 49) (r := (r3a, r3b)) (m := mp1) (key := 9) (kI := 9) (shK_good.mono _ _ _ HS3.out.rdy (by omega)) HS3.out.full (.inr HS3.out.g.1) (by omega) rfl 121 (by omega))
  have hci := conv1 V 121
  clear hL hB hO HB3
  go_upto_region 6 with (go_at_call 22; refine HS1.out.mono ?_; rintro e w5 ⟨O5, st5, ⟨r5a, r5b⟩, hs⟩; have he5 := hs.e; subst he5; have HS5 := Lib.hid hs; clear hs HS1 HL4 hci b0 b1 lb)
  have hal : Below V.heap.size V (V.alloc (.cells #[.int .u8 121] 5 (1, 2))) := (Below.refl _ _).alloc (Nat.le_refl _) _
  have hA := (HB4.out.off (S := fun _ => False) (Off.of_below hal) id).off HS5.out.off (by rintro (e | e); exact HO4.out.1 e; exact HO4.out.2 e)
  have hlA := hA.lt
  have HB5 := Lib.hid (HS5.out.l.box (r5a, r5b) 30)
  refine wp_forget (fun V => ShL W V W.heap.size w1.heap.size O5 st5 ∧ BoxA V w5.heap.size (r5a, r5b) ∧ Out O5 w1.heap.size w5.heap.size ∧ BoxA V w3.heap.size (r3a, r3b) ∧ Out O5 w1.heap.size w3.heap.size) ⟨HB5.out.1, HB5.out.2.1, HB5.out.2.2, hA.off (S := fun _ => False) (Off.of_below ((Below.refl _ _).alloc (Nat.le_refl _) _)) id, out_next HO4.out HS5.out.hO (by have := HB4.out.lt; have := hal.size; omega)⟩ ?_
  rintro V6 ⟨hL6, hB6, hO6, hA6, hQ6⟩
  have hsub : SubR (shRd st3.1.L) (shRd st5.1.L) := by
    obtain ⟨j, _, ha⟩ := HS5.out.aft
    exact ha.sub
  have HL6 := Lib.hid hL6
  have HB6 := Lib.hid hB6
  have HA6 := Lib.hid hA6
  have HO6 := Lib.hid hO6
  have HQ6 := Lib.hid hQ6
  have HT2 : Hid (Tells (shRd st5.1.L) 0 0 (r5a, r5b) mpK) := Lib.hid HS5.out.g.1
  have HT1 : Hid (Tells (shRd st5.1.L) 0 0 (r3a, r3b) mp1) := Lib.hid (HS3.out.g.1.mono hsub)
  have HR5 : Hid (shK.Rdy st5.1 0) := Lib.hid (shK_good.mono _ _ _ HS5.out.rdy (by omega))
  clear hL6 hB6 hO6 hA6 hQ6 hsub HS5 HS3 HB5 hA hal hlA HB4 HO4
  have HCT := Lib.hid (count_law HL6.out HR5.out (r1 := (r3a, r3b)) (r2 := (r5a, r5b)) (.inr HT1.out) (.inr HT2.out) mp1_lst mpK_lst (by show 1 ≤ 149796; omega) (by show 2 ≤ 149796; omega))
  have b0 := HB6.out.1
  have b1 := HB6.out.2.1
  have d0 := HA6.out.1
  have d1 := HA6.out.2.1
  have lb := HB6.out.lt
  have ld := HA6.out.lt
  simp only at b0 b1 d0 d1 HCT
  go_upto_region 7 with (go_at_call 14; refine HCT.out.mono ?_; rintro e w9 ⟨rfl, s9, hk⟩)
  have HK9 := Lib.hid hk
  rw [show (chgs [(5, [b8 120])] [(5, [b8 120]), (9, [b8 121])]).length = 1 from rfl]
  clear hk b0 b1 d0 d1 lb ld HCT
  go_wp2
  go_ret
  exact ⟨rfl, HK9.out.l.bel⟩
end Go.Proofs.Ytgkdggidgaifhaa
namespace Go.Proofs.Ytgkdggidgaifhaa
open Go.RowKit
set_option linter.unusedVariables false
set_option linter.unusedSimpArgs false

/-- The tree behind a range over its changes. -/
def KyTr (W : World) (S T : Nat) (O : Nat → Prop) (st : ShS × Int) : Prop := ∃ s', TrAt (shM S) W T O s' st.2 ∧ Like shP st.1 s' ∧ ∀ n, shK.Rdy st.1 n → shK.Rdy s' n
theorem range_keys {α : Type} {g : Operand} {tp : Array Tmp} {assign body : Code} {Q : Exit → Act → World → Prop} {a : Act} {w : World} {S T B3 B4 B5 : Nat} {O Ov : Nat → Prop} {st : ShS × Int} {r1 r2 : Int × Int} {m1 m2 : Mp} {ps qs : Ps} {cs : List Chg}
    (hg : a.eval g = .func (.func 27) #[] #[.pointer (some ⟨B3, 0, none⟩), .pointer (some ⟨B4, 0, none⟩), .pointer (some ⟨B5, 0, none⟩)]) (htp : tp.size = 1)
    (h : TrAt (shM S) w T O st.1 st.2) (hin : shP.In st.1) (hr : shK.Rdy st.1 0) (hm1 : TellsR (shRd st.1.L) r1 m1) (hm2 : TellsR (shRd st.1.L) r2 m2) (hp : Lst m1 ps) (hq : Lst m2 qs) (hl : ps.length ≤ 149796) (hl2 : qs.length ≤ 149796) (hcs : chgs ps qs = cs)
    (c3 : w.cell? ⟨B3, 0, none⟩ = some (.pointer (some ⟨T, 0, none⟩))) (c4 : BoxA w B4 r1) (c5 : BoxA w B5 r2)
    (f : α → Chg → α × Bool) (al : α → Bool) (hal : ∀ x e, al x = true → (f x e).2 = al (f x e).1)
    (Rdy : α → Nat → Prop) (rdyM : ∀ a n m, Rdy a n → m ≤ n → Rdy a m) (rdyS : ∀ a e n, Rdy a (n + 1) → Rdy (f a e).1 n)
    (Iv : World → (Nat → Prop) → α → Prop) (Ix : Code → World → (Nat → Prop) → α → Prop)
    (ivOff : ∀ {S O : Nat → Prop} {w w' : World} {x : α}, Iv w O x → Off S w w' → (∀ k, S k → ¬ O k) → Iv w' O x) (ivLt : ∀ {O : Nat → Prop} {w : World} {x : α} {k : Nat}, Iv w O x → O k → k < w.heap.size)
    (ixOff : ∀ {c : Code} {S O : Nat → Prop} {w w' : World} {x : α}, Ix c w O x → Off S w w' → (∀ k, S k → ¬ O k) → Ix c w' O x) (ixLt : ∀ {c : Code} {O : Nat → Prop} {w : World} {x : α} {k : Nat}, Ix c w O x → O k → k < w.heap.size)
    (x0 : α) (hN : Rdy x0 (ps.length + qs.length)) (hx0 : al x0 = true) (hi : Iv w Ov x0) (d1 : ∀ k, O k → ¬ Ov k) (d2 : ¬ Ov T)
    (hround : ∀ (l : Nat) (x : α) (e : Chg) (vs : Array Value) (W : World) (O1 : Nat → Prop), (∀ k, O1 k → k < W.heap.size) → l < W.heap.size → ¬ O1 l → al x = true → Rdy x 1 → argC W O1 e vs →
      assign.wpIn (Fence.wide.inRound l) 8 Try.prog (Exit.then (fun a1 W1 => Below W.heap.size W W1 ∧ ∀ W2, Off (· = l) W1 W2 → Iv W2 O1 x → argC W2 O1 e vs →
        body.wpIn (Fence.wide.inRound l) 8 Try.prog (bdPostG al Iv Ix (fun k => O1 k ∨ W.heap.size ≤ k) (fun k => O1 k ∨ ownC vs k ∨ W.heap.size ≤ k) W2 (f x e).1) a1 W2) (fun _ _ _ => False)) { tmps := (tp.zip vs).foldl (fun t (p, v) => t.setIfInBounds p v) a.tmps, defers := [] } W)
    (hend : ∀ (D : Nat) (W : World) (O1 : Nat → Prop), w.heap.size ≤ D → W.heap[D]? = some (.deferred (some [])) → KyTr W S T O st → Off (fun k => O k ∨ Ov k) w W → (∀ k, O1 k → Ov k ∨ w.heap.size ≤ k) → ¬ O1 D →
      (al (foldE f x0 cs).1 = true → Iv W O1 (foldE f x0 cs).1 → Q .normal { a with defers := { target := .collected D, args := #[] } :: a.defers } W) ∧
      (al (foldE f x0 cs).1 = false → ∀ c, Ix c W O1 (foldE f x0 cs).1 → c.wpIn Fence.wide 9 Try.prog Q { a with defers := { target := .collected D, args := #[] } :: a.defers } W)) :
    (Code.rangeFunc g tp assign body).wpIn Fence.wide 9 Try.prog Q a w := by
  have hOl : ∀ k, O k → k < w.heap.size := fun k hk => (shM S).lt h.at_ hk
  have hT := h.lt
  have l3 := lt_of_cell c3
  refine range_gen (F := 27) (OS := O) (Ov := Ov) hg (ent_fn Try.func27 (by kernel_rfl) rfl) f al argC ownC hal Rdy rdyM rdyS
    (fun {W O e vs} h => by obtain ⟨v1, v2, rfl, _⟩ := h; rw [htp]; rfl) (fun {W O e vs k} h hk => argC_own h hk) (fun {S O O1 W W' e vs} h ho hs h1 => argC_off h ho hs h1)
    Iv Ix ivOff ivLt ixOff ixLt x0 (ps.length + qs.length) hN hx0 hi hOl (fun y W => y = (foldE f x0 cs).1 ∧ KyTr W S T O st)
    (fun {y W W'} h hw ho => ⟨h.1, by
      obtain ⟨s', h1, h2⟩ := h.2
      exact ⟨s', h1.off ho (fun k e e2 => by have := hOl k e2; omega) (by omega), h2⟩⟩) hround ?seq ?fin
  case seq =>
    intro Y W1 O1 hb1 hiv hrd hO1
    have hd := keys1_law (S := S) (O := O) (st := st) (Ov := O1) Y (w := W1) (h.up hb1) hin hr hm1 hm2 hp hq hl hl2 hiv hrd (fun k hk e => by
      have := hOl k hk
      rcases hO1 k e with e2 | e2
      · exact d1 k hk e2
      · omega) (fun e => by rcases hO1 T e with e2 | e2; exact d2 e2; omega) ((hb1.cell (p := ⟨B3, 0, none⟩) l3).trans c3) (c4.off (S := fun _ => False) (Off.of_below hb1) id) (c5.off (S := fun _ => False) (Off.of_below hb1) id)
    rw [hcs] at hd
    refine hd.mono ?_
    rintro e W2 ⟨Ov', s', hv, hcg⟩
    exact ⟨_, Ov', hv, hcg.iv, ⟨rfl, s', hcg.tr, hcg.like, hcg.rdy⟩, hcg.off, hcg.gr⟩
  case fin =>
    intro D W O1 y hD hdf hrs hof hO1 hOD
    obtain ⟨rfl, hk⟩ := hrs
    exact hend D W O1 hD hdf hk hof hO1 hOD
/-- A range that may be left by a break. -/
theorem range_keysB {α : Type} {g : Operand} {tp : Array Tmp} {assign body : Code} {Q : Exit → Act → World → Prop} {a : Act} {w : World} {S T B3 B4 B5 : Nat} {O Ov : Nat → Prop} {st : ShS × Int} {r1 r2 : Int × Int} {m1 m2 : Mp} {ps qs : Ps} {cs : List Chg}
    (hg : a.eval g = .func (.func 27) #[] #[.pointer (some ⟨B3, 0, none⟩), .pointer (some ⟨B4, 0, none⟩), .pointer (some ⟨B5, 0, none⟩)]) (htp : tp.size = 1)
    (h : TrAt (shM S) w T O st.1 st.2) (hin : shP.In st.1) (hr : shK.Rdy st.1 0) (hm1 : TellsR (shRd st.1.L) r1 m1) (hm2 : TellsR (shRd st.1.L) r2 m2) (hp : Lst m1 ps) (hq : Lst m2 qs) (hl : ps.length ≤ 149796) (hl2 : qs.length ≤ 149796) (hcs : chgs ps qs = cs)
    (c3 : w.cell? ⟨B3, 0, none⟩ = some (.pointer (some ⟨T, 0, none⟩))) (c4 : BoxA w B4 r1) (c5 : BoxA w B5 r2)
    (f : α → Chg → α × Bool) (al : α → Bool) (hal : ∀ x e, al x = true → (f x e).2 = al (f x e).1)
    (Rdy : α → Nat → Prop) (rdyM : ∀ a n m, Rdy a n → m ≤ n → Rdy a m) (rdyS : ∀ a e n, Rdy a (n + 1) → Rdy (f a e).1 n)
    (Iv : World → (Nat → Prop) → α → Prop) (id : Nat) (hex : ∀ a W, Q .normal a W → (Code.exit id).wpIn Fence.wide 9 Try.prog Q a W)
    (ivOff : ∀ {S O : Nat → Prop} {w w' : World} {x : α}, Iv w O x → Off S w w' → (∀ k, S k → ¬ O k) → Iv w' O x) (ivLt : ∀ {O : Nat → Prop} {w : World} {x : α} {k : Nat}, Iv w O x → O k → k < w.heap.size)
    (x0 : α) (hN : Rdy x0 (ps.length + qs.length)) (hx0 : al x0 = true) (hi : Iv w Ov x0) (d1 : ∀ k, O k → ¬ Ov k) (d2 : ¬ Ov T)
    (hround : ∀ (l : Nat) (x : α) (e : Chg) (vs : Array Value) (W : World) (O1 : Nat → Prop), (∀ k, O1 k → k < W.heap.size) → l < W.heap.size → ¬ O1 l → al x = true → Rdy x 1 → argC W O1 e vs →
      assign.wpIn (Fence.wide.inRound l) 8 Try.prog (Exit.then (fun a1 W1 => Below W.heap.size W W1 ∧ ∀ W2, Off (· = l) W1 W2 → Iv W2 O1 x → argC W2 O1 e vs →
        body.wpIn (Fence.wide.inRound l) 8 Try.prog (bdPostG al Iv (fun c w O x => c = .exit id ∧ Iv w O x) (fun k => O1 k ∨ W.heap.size ≤ k) (fun k => O1 k ∨ ownC vs k ∨ W.heap.size ≤ k) W2 (f x e).1) a1 W2) (fun _ _ _ => False)) { tmps := (tp.zip vs).foldl (fun t (p, v) => t.setIfInBounds p v) a.tmps, defers := [] } W)
    (hend : ∀ (D : Nat) (W : World) (O1 : Nat → Prop), w.heap.size ≤ D → W.heap[D]? = some (.deferred (some [])) → KyTr W S T O st → Off (fun k => O k ∨ Ov k) w W → (∀ k, O1 k → Ov k ∨ w.heap.size ≤ k) → ¬ O1 D → Iv W O1 (foldE f x0 cs).1 → Q .normal { a with defers := { target := .collected D, args := #[] } :: a.defers } W) :
    (Code.rangeFunc g tp assign body).wpIn Fence.wide 9 Try.prog Q a w := by
  exact range_keys hg htp h hin hr hm1 hm2 hp hq hl hl2 hcs c3 c4 c5 f al hal Rdy rdyM rdyS Iv (fun c w O x => c = .exit id ∧ Iv w O x) ivOff ivLt (fun h ho hs => ⟨h.1, ivOff h.2 ho hs⟩) (fun h hk => ivLt h.2 hk) x0 hN hx0 hi d1 d2 hround
    (fun D W O1 e1 e2 e3 e4 e5 e6 => ⟨fun _ hiv => hend D W O1 e1 e2 e3 e4 e5 e6 hiv, fun _ c hix => by
      obtain ⟨rfl, hiv⟩ := hix
      exact hex _ _ (hend D W O1 e1 e2 e3 e4 e5 e6 hiv)⟩)
end Go.Proofs.Ytgkdggidgaifhaa
