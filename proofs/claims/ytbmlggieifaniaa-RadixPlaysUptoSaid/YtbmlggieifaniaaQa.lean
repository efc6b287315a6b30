/- radix's laws: lists of pairs; right, known. -/
import Derived.Test.YtbmlggieifaniaaPf
namespace Go.Proofs.Ytbmlggieifaniaa
open Go.RowKit
set_option linter.unusedVariables false
set_option linter.unusedSimpArgs false

/-! ### a map's pairs are one list -/
theorem up_uniq : ∀ {ps qs : Ps}, ps.Pairwise (fun a b => a.1 < b.1) → qs.Pairwise (fun a b => a.1 < b.1) → (∀ x, x ∈ ps ↔ x ∈ qs) → ps = qs
  | [], [], _, _, _ => rfl
  | [], q :: qs, _, _, h => by have := (h q).2 (List.mem_cons_self ..); cases this
  | p :: ps, [], _, _, h => by have := (h p).1 (List.mem_cons_self ..); cases this
  | p :: ps, q :: qs, h1, h2, h => by
    have a1 := List.pairwise_cons.1 h1
    have a2 := List.pairwise_cons.1 h2
    have e : p = q := by
      rcases List.mem_cons.1 ((h p).1 (List.mem_cons_self ..)) with e | e
      · exact e
      · rcases List.mem_cons.1 ((h q).2 (List.mem_cons_self ..)) with e2 | e2
        · exact e2.symm
        · have := a2.1 p e
          have := a1.1 q e2
          omega
    subst e
    refine congrArg _ (up_uniq a1.2 a2.2 fun x => ⟨fun hx => ?_, fun hx => ?_⟩)
    · rcases List.mem_cons.1 ((h x).1 (List.mem_cons_of_mem _ hx)) with e | e
      · have := a1.1 x hx
        rw [e] at this
        omega
      · exact e
    · rcases List.mem_cons.1 ((h x).2 (List.mem_cons_of_mem _ hx)) with e | e
      · have := a2.1 x hx
        rw [e] at this
        omega
      · exact e
theorem Lst.uniq {m : Mp} {ps qs : Ps} (h : Lst m ps) (k : Lst m qs) : ps = qs := up_uniq h.up k.up fun x => by
  obtain ⟨a, b⟩ := x
  rw [h.mem, k.mem]
theorem Lst.cast {m m' : Mp} {ps : Ps} (h : Lst m ps) (e : ∀ k, m' k = m k) : Lst m' ps := ⟨h.up, fun k v => by rw [h.mem, e]⟩
def insP (k : Nat) (v : Bytes) : Ps → Ps
  | [] => [(k, v)]
  | (k', v') :: ps => if k < k' then (k, v) :: (k', v') :: ps else if k = k' then (k, v) :: ps else (k', v') :: insP k v ps
theorem insP_mem (k : Nat) (v : Bytes) : ∀ (ps : Ps), ps.Pairwise (fun a b => a.1 < b.1) → ∀ x, x ∈ insP k v ps ↔ x = (k, v) ∨ (x ∈ ps ∧ x.1 ≠ k)
  | [], _, x => by simp [insP]
  | (k', v') :: ps, h, x => by
    have a := List.pairwise_cons.1 h
    unfold insP
    split
    · rename_i h1
      rw [List.mem_cons]
      refine or_congr Iff.rfl ⟨fun hx => ⟨hx, ?_⟩, fun hx => hx.1⟩
      rcases List.mem_cons.1 hx with e | e
      · rw [e]; show k' ≠ k; omega
      · have := a.1 x e
        simp only at this
        omega
    · split
      · rename_i h1 h2
        rw [List.mem_cons]
        refine or_congr Iff.rfl ⟨fun hx => ⟨List.mem_cons_of_mem _ hx, ?_⟩, fun hx => ?_⟩
        · have := a.1 x hx
          simp only at this
          omega
        · rcases List.mem_cons.1 hx.1 with e | e
          · rw [e] at hx; exact absurd h2.symm hx.2
          · exact e
      · rename_i h1 h2
        rw [List.mem_cons, insP_mem k v ps a.2 x, List.mem_cons]
        constructor
        · rintro (e | e | e)
          · exact .inr ⟨.inl e, by rw [e]; exact fun e => h2 e.symm⟩
          · exact .inl e
          · exact .inr ⟨.inr e.1, e.2⟩
        · rintro (e | ⟨e | e, e2⟩)
          · exact .inr (.inl e)
          · exact .inl e
          · exact .inr (.inr ⟨e, e2⟩)
theorem insP_up (k : Nat) (v : Bytes) : ∀ (ps : Ps), ps.Pairwise (fun a b => a.1 < b.1) → (insP k v ps).Pairwise (fun a b => a.1 < b.1)
  | [], _ => List.pairwise_singleton _ _
  | (k', v') :: ps, h => by
    have a := List.pairwise_cons.1 h
    unfold insP
    split
    · rename_i h1
      refine List.pairwise_cons.2 ⟨fun x hx => ?_, h⟩
      rcases List.mem_cons.1 hx with e | e
      · rw [e]; exact h1
      · have := a.1 x e
        simp only at this ⊢
        omega
    · split
      · rename_i h1 h2
        exact List.pairwise_cons.2 ⟨fun x hx => by have := a.1 x hx; simp only at this ⊢; omega, a.2⟩
      · rename_i h1 h2
        refine List.pairwise_cons.2 ⟨fun x hx => ?_, insP_up k v ps a.2⟩
        rcases (insP_mem k v ps a.2 x).1 hx with e | e
        · rw [e]; show k' < k; omega
        · exact a.1 x e.1
theorem insP_len (k : Nat) (v : Bytes) : ∀ (ps : Ps), ps.Pairwise (fun a b => a.1 < b.1) → (insP k v ps).length = if ∃ x ∈ ps, x.1 = k then ps.length else ps.length + 1
  | [], _ => by simp [insP]
  | (k', v') :: ps, h => by
    have a := List.pairwise_cons.1 h
    have ih := insP_len k v ps a.2
    unfold insP
    split
    · rename_i h1
      rw [if_neg]
      · simp
      · rintro ⟨x, hx, e⟩
        rcases List.mem_cons.1 hx with e2 | e2
        · rw [e2] at e; simp only at e; omega
        · have := a.1 x e2
          simp only at this
          omega
    · split
      · rename_i h1 h2
        rw [if_pos ⟨(k', v'), List.mem_cons_self .., h2.symm⟩]
        simp
      · rename_i h1 h2
        rw [List.length_cons, ih, List.length_cons]
        have e : (∃ x ∈ (k', v') :: ps, x.1 = k) ↔ ∃ x ∈ ps, x.1 = k := by
          constructor
          · rintro ⟨x, hx, e⟩
            rcases List.mem_cons.1 hx with e2 | e2
            · rw [e2] at e; exact absurd e.symm h2
            · exact ⟨x, e2, e⟩
          · rintro ⟨x, hx, e⟩; exact ⟨x, List.mem_cons_of_mem _ hx, e⟩
        by_cases hc : ∃ x ∈ ps, x.1 = k
        · rw [if_pos hc, if_pos (e.2 hc)]
        · rw [if_neg hc, if_neg (fun h => hc (e.1 h))]
theorem Lst.set {m : Mp} {ps : Ps} (h : Lst m ps) (k : Nat) (v : Bytes) : Lst (upd m k (some v)) (insP k v ps) := ⟨insP_up k v ps h.up, fun a b => by
  rw [insP_mem k v ps h.up]
  by_cases e : a = k
  · subst e
    rw [upd_same]
    constructor
    · rintro (e | e)
      · cases e; rfl
      · exact absurd rfl e.2
    · intro e; cases e; exact .inl rfl
  · rw [upd_other _ _ _ e, h.mem]
    constructor
    · rintro (e2 | e2)
      · cases e2; exact absurd rfl e
      · exact e2.1
    · intro e2; exact .inr ⟨e2, e⟩⟩
theorem Lst.set_len {m : Mp} {ps : Ps} (h : Lst m ps) (k : Nat) (v : Bytes) : (insP k v ps).length = if (m k).isSome then ps.length else ps.length + 1 := by
  rw [insP_len k v ps h.up]
  have e : (∃ x ∈ ps, x.1 = k) ↔ (m k).isSome = true := by
    constructor
    · rintro ⟨⟨a, b⟩, hx, e⟩
      have := (h.mem a b).1 hx
      simp only at e
      rw [← e, this]; rfl
    · intro hs
      obtain ⟨v, hv⟩ := Option.isSome_iff_exists.1 hs
      exact ⟨(k, v), (h.mem k v).2 hv, rfl⟩
  by_cases hc : ∃ x ∈ ps, x.1 = k
  · rw [if_pos hc, if_pos (e.1 hc)]
  · rw [if_neg hc, if_neg (fun h => hc (e.2 h))]
theorem Lst.nil : Lst (fun _ => none) [] := ⟨.nil, fun k v => by simp⟩
theorem filter_up {ps : Ps} (p : Nat × Bytes → Bool) (h : ps.Pairwise (fun a b => a.1 < b.1)) : (ps.filter p).Pairwise (fun a b => a.1 < b.1) := h.sublist List.filter_sublist
theorem Lst.del {m : Mp} {ps : Ps} (h : Lst m ps) (k : Nat) : Lst (upd m k none) (ps.filter fun x => decide (x.1 ≠ k)) := ⟨filter_up _ h.up, fun a b => by
  rw [List.mem_filter, h.mem]
  by_cases e : a = k
  · subst e
    rw [upd_same]
    simp
  · rw [upd_other _ _ _ e]
    simp [e]⟩

/-! ### arguments: pairs -/
structure PArg where
  key : Int
  A : Option Addr
  n : Nat
  c : Nat
  L : Bytes
def PArg.v (b : PArg) : Value := .slice b.A b.n b.c
def PArg.In (w : World) (b : PArg) : Prop := SBy w b.A b.n b.L ∧ b.n ≤ b.c ∧ -9223372036854775808 ≤ b.key ∧ b.key ≤ 9223372036854775807
def Prs (w : World) (A : Option Addr) (n : Nat) (b : Nat → PArg) : Prop := 0 < n → ∃ g o, A = some ⟨g, o, none⟩ ∧ g < w.heap.size ∧ ∀ k, k < n → w.cell? ⟨g, o + k * 2, none⟩ = some (.int .i64 (b k).key) ∧ w.cell? ⟨g, o + k * 2 + 1, none⟩ = some (b k).v ∧ (b k).In w
theorem Prs.up {w w' : World} {A : Option Addr} {n : Nat} {b : Nat → PArg} (h : Prs w A n b) (hb : Below w.heap.size w w') : Prs w' A n b := fun hp => by
  obtain ⟨g, o, e, hg, hc⟩ := h hp
  exact ⟨g, o, e, Nat.lt_of_lt_of_le hg hb.size, fun k hk => ⟨(hb.cell (p := ⟨g, o + k * 2, none⟩) hg).trans (hc k hk).1, (hb.cell (p := ⟨g, o + k * 2 + 1, none⟩) hg).trans (hc k hk).2.1, (hc k hk).2.2.1.up hb, (hc k hk).2.2.2⟩⟩
def keyOk (k : Int) : Prop := 0 ≤ k ∧ k < 16777216
instance (k : Int) : Decidable (keyOk k) := inferInstanceAs (Decidable (0 ≤ k ∧ k < 16777216))
theorem right9_any (w : World) (key : Int) : Calls Try.prog 9 #[.int .i64 key] w fun e w' => e = .returned (.bool (decide (keyOk key))) ∧ w' = w := by
  by_cases h1 : 0 ≤ key
  · by_cases h2 : key < 16777216
    · rw [show decide (keyOk key) = true from decide_eq_true ⟨h1, h2⟩]
      go_enter Try.func9, Try.ntmps9
      go_wp2
      go_ret
      exact ⟨by simp [h1, h2], rfl⟩
    · rw [show decide (keyOk key) = false from decide_eq_false fun h => h2 h.2]
      go_enter Try.func9, Try.ntmps9
      go_wp2
      go_ret
      exact ⟨by simp [h1, h2], rfl⟩
  · rw [show decide (keyOk key) = false from decide_eq_false fun h => h1 h.1]
    go_enter Try.func9, Try.ntmps9
    go_wp2
    go_ret
    exact ⟨rfl, rfl⟩
/-- Over a shelf: a set that has room. -/
theorem Prs.sl {w : World} {b : PArg} (h : b.In w) : SlB w b.v b.L := ⟨_, _, _, rfl, h.2.1, h.1⟩
end Go.Proofs.Ytbmlggieifaniaa
