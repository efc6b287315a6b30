/- radix: the cursor. -/
import Derived.Test.YtgkdggidgaifhaaNc
namespace Go.Proofs.Ytgkdggidgaifhaa
open Go.RowKit
set_option linter.unusedVariables false
set_option linter.unusedSimpArgs false

abbrev Cur := Bytes × Bool
def nextN (s : Cur) (m : Nat) : Nat × Cur := if (rdVar 0 0 s.1).2.2 ≠ 0 ∨ m < (rdVar 0 0 s.1).1 then (0, (s.1, true)) else ((rdVar 0 0 s.1).1, (s.1.drop (rdVar 0 0 s.1).2.1, s.2))
def takeN (s : Cur) (n : Nat) : Bytes × Cur := if s.1.length < n then ([], (s.1, true)) else (s.1.take n, (s.1.drop n, s.2))
theorem rdVar_used : ∀ (L : Bytes) (i v : Nat), (rdVar i v L).2.2 = 0 → i < (rdVar i v L).2.1 ∧ (rdVar i v L).2.1 ≤ i + L.length := by
  intro L
  induction L with
  | nil => intro i v h; simp [rdVar] at h
  | cons c r ih =>
    intro i v h
    rw [rdVar_cons] at h ⊢
    split at h
    · simp at h
    · rename_i h1
      rw [if_neg h1]
      split at h
      · rename_i h2
        rw [if_pos h2]
        have := ih _ _ h
        simp only [List.length_cons]
        omega
      · rename_i h2
        rw [if_neg h2]
        split at h
        · simp at h
        · rename_i h3
          rw [if_neg h3]
          simp
theorem nextN_le (s : Cur) (m : Nat) : (nextN s m).1 ≤ m := by
  unfold nextN
  split
  · simp
  · rename_i h; simp only; omega
theorem nextN_len (s : Cur) (m : Nat) : (nextN s m).2.1.length ≤ s.1.length := by
  unfold nextN
  split <;> simp
theorem takeN_len (s : Cur) (n : Nat) : (takeN s n).2.1.length ≤ s.1.length := by
  unfold takeN
  split <;> simp
theorem takeN_le (s : Cur) (n : Nat) : (takeN s n).1.length ≤ n := by
  unfold takeN
  split <;> simp; omega

/-- An address of a slice's cells. -/
def Adr (A : Option Addr) : Prop := ∀ a, A = some a → ∃ b o, a = ⟨b, o, none⟩
def SlA (w : World) (v : Value) (L : Bytes) : Prop := ∃ A n c, v = .slice A n c ∧ n ≤ c ∧ SBy w A n L ∧ Adr A
theorem SlA.slB {w : World} {v : Value} {L : Bytes} (h : SlA w v L) : SlB w v L := by
  obtain ⟨A, n, c, h1, h2, h3, _⟩ := h
  exact ⟨A, n, c, h1, h2, h3⟩
theorem SlA.off {S : Nat → Prop} {w w' : World} {v : Value} {L : Bytes} (h : SlA w v L) (ho : Off S w w') (hs : ∀ b o n c, v = .slice (Option.some ⟨b, o, none⟩) n c → ¬ S b) : SlA w' v L := by
  obtain ⟨A, n, c, rfl, h1, h2, h3⟩ := h
  exact ⟨A, n, c, rfl, h1, h2.off ho fun k o e => hs k o n c (by rw [e]), h3⟩
theorem OwB.slA {B : Nat} {w : World} {v : Value} {L : Bytes} (h : OwB B w v L) : SlA w v L ∧ (∀ b o n c, v = .slice (Option.some ⟨b, o, none⟩) n c → B ≤ b) := by
  rcases h.2 with ⟨rfl, h0⟩ | ⟨g, cap, cur, rfl, hb, hg, h1, h2, h3, h4⟩
  · have : L = [] := by simpa using h0
    subst this
    exact ⟨⟨none, _, _, rfl, Nat.le_refl _, SBy.nil _ _, fun a e => by cases e⟩, fun b o n c e => by cases e⟩
  · obtain ⟨A, c, e, g1, g2, g3, g4⟩ := h.form
    cases e
    exact ⟨⟨_, _, _, rfl, g1, g3, fun a e => by cases e; exact ⟨_, _, rfl⟩⟩, fun b o n c e => by cases e; exact hb⟩
/-- The cursor at C. -/
structure CurAt (Bk : Nat → Prop) (w : World) (C : Nat) (s : Cur) : Prop where
  b : ∃ v, w.cell? ⟨C, 0, none⟩ = some v ∧ SlA w v s.1 ∧ ∀ b o n c, v = .slice (some ⟨b, o, none⟩) n c → Bk b
  ne : ¬ Bk C
  bad : w.cell? ⟨C, 1, none⟩ = some (.bool s.2)
  free : ∀ k, w.frozen? ⟨C, k, none⟩ = false
  len : s.1.length ≤ 2 ^ 40
theorem CurAt.lt {Bk : Nat → Prop} {w : World} {C : Nat} {s : Cur} (h : CurAt Bk w C s) : C < w.heap.size := lt_of_cell h.bad
theorem CurAt.off {Bk S : Nat → Prop} {w w' : World} {C : Nat} {s : Cur} (h : CurAt Bk w C s) (ho : Off S w w') (h1 : ¬ S C) (h2 : ∀ v b o n c, w.cell? ⟨C, 0, none⟩ = some v → v = .slice (some ⟨b, o, none⟩) n c → ¬ S b) : CurAt Bk w' C s := by
  obtain ⟨v, b1, b2, b3⟩ := h.b
  exact ⟨⟨v, (ho.cell (p := ⟨C, 0, none⟩) h.lt h1).trans b1, b2.off ho (fun b o n c e => h2 v b o n c b1 e), b3⟩, h.ne, (ho.cell (p := ⟨C, 1, none⟩) h.lt h1).trans h.bad, fun k => (ho.frozen (p := ⟨C, k, none⟩) h.lt h1).trans (h.free k), h.len⟩
theorem CurAt.up {Bk : Nat → Prop} {w w' : World} {C : Nat} {s : Cur} (h : CurAt Bk w C s) (hb : Below w.heap.size w w') : CurAt Bk w' C s := h.off (S := fun _ => False) (Off.of_below hb) id (fun _ _ _ _ _ _ _ => id)
theorem CurAt.setBad {Bk : Nat → Prop} {w : World} {C : Nat} {s : Cur} (h : CurAt Bk w C s) : CurAt Bk (w.setCell ⟨C, 1, none⟩ (.bool true)) C (s.1, true) ∧ Off (· = C) w (w.setCell ⟨C, 1, none⟩ (.bool true)) := by
  have ho : Off (· = C) w (w.setCell ⟨C, 1, none⟩ (.bool true)) := (Off.refl (· = C) w).setCell (p := ⟨C, 1, none⟩) rfl _
  obtain ⟨v, b1, b2, b3⟩ := h.b
  refine ⟨⟨⟨v, ?_, b2.off ho (fun b o n c e e2 => h.ne (e2 ▸ b3 b o n c e)), b3⟩, h.ne, World.cell?_setCell_same _ _ _ h.bad, fun k => (World.frozen?_setCell _ _ _ _).trans (h.free k), h.len⟩, ho⟩
  rw [World.cell?_setCell_other _ _ _ _ (by simp)]; exact b1
theorem CurAt.setB {Bk : Nat → Prop} {w : World} {C : Nat} {s : Cur} (h : CurAt Bk w C s) {v : Value} {L : Bytes} (hv : SlA w v L) (hn : ∀ b o n c, v = .slice (some ⟨b, o, none⟩) n c → Bk b) (hl : L.length ≤ 2 ^ 40) :
    CurAt Bk (w.setCell ⟨C, 0, none⟩ v) C (L, s.2) ∧ Off (· = C) w (w.setCell ⟨C, 0, none⟩ v) := by
  have ho : Off (· = C) w (w.setCell ⟨C, 0, none⟩ v) := (Off.refl (· = C) w).setCell (p := ⟨C, 0, none⟩) rfl _
  obtain ⟨v0, b1, b2, b3⟩ := h.b
  refine ⟨⟨⟨v, World.cell?_setCell_same _ _ _ b1, hv.off ho (fun b o n c e e2 => h.ne (e2 ▸ hn b o n c e)), hn⟩, h.ne, ?_, fun k => (World.frozen?_setCell _ _ _ _).trans (h.free k), hl⟩, ho⟩
  rw [World.cell?_setCell_other _ _ _ _ (by simp)]; exact h.bad
theorem adr_some {b o : Nat} : Adr (some ⟨b, o, none⟩) := fun a e => by cases e; exact ⟨_, _, rfl⟩
theorem SlA.drop {w : World} {b o n c k : Nat} {L : Bytes} (hS : SBy w (some ⟨b, o, none⟩) n L) (hk : k ≤ n) (hc : n ≤ c) : SlA w (.slice (some ⟨b, o + k, none⟩) (n - k) (c - k)) (L.drop k) := by
  refine ⟨_, _, _, rfl, by omega, ?_, adr_some⟩
  have := hS.part k n hk (Nat.le_refl _)
  rwa [List.take_of_length_le (by simp [hS.1])] at this
theorem SlA.dropAll {w : World} {b o n k : Nat} {L : Bytes} (hk : n ≤ k) (hl : L.length = n) : SlA w (.slice (some ⟨b, o, none⟩) (n - k) 0) (L.drop k) := by
  refine ⟨_, _, _, rfl, by omega, ?_, adr_some⟩
  rw [List.drop_eq_nil_of_le (by omega), show n - k = 0 by omega]
  exact SBy.nil _ _
theorem SBy.take {w : World} {A : Option Addr} {n k : Nat} {L : Bytes} (hS : SBy w A n L) (hk : k ≤ n) : SBy w A k (L.take k) := by
  refine ⟨by simp [hS.1]; omega, fun hp => ?_⟩
  obtain ⟨b, o, rfl, h1, h2⟩ := hS.2 (by omega)
  refine ⟨b, o, rfl, h1, fun j hj => ?_⟩
  rw [h2 j (by omega)]
  simp [at8, List.getD_eq_getElem?_getD, List.getElem?_take, hj]
def NxPost (Bk : Nat → Prop) (w : World) (C : Nat) (s : Cur) (m : Nat) (e : Ending) (w' : World) : Prop := e = .returned (.int .i64 ((nextN s m).1 : Nat)) ∧ CurAt Bk w' C (nextN s m).2 ∧ Off (· = C) w w'
set_option maxRecDepth 100000 in
set_option maxHeartbeats 1000000 in
theorem next_any {Bk : Nat → Prop} {w : World} {C : Nat} {s : Cur} (h : CurAt Bk w C s) {m : Nat} (hm : m < 9223372036854775808) : Calls Try.prog 79 #[.pointer (some ⟨C, 0, none⟩), .int .u64 (m : Nat)] w (NxPost Bk w C s m) := by
  obtain ⟨v, c0, ⟨A, n, c, rfl, hnc, hS, hA⟩, hne⟩ := h.b
  have c1 := h.bad
  have z0 := h.free 0
  have z1 := h.free 1
  have hlen := hS.1
  have hl40 := h.len
  have hrv := readVar_any w A n c s.1 hS (by omega)
  unfold RvPost at hrv
  have HS := Lib.hid hS
  have HH := Lib.hid h
  have HN := Lib.hid hne
  obtain ⟨N, hN⟩ : ∃ N, N = nextN s m := ⟨_, rfl⟩
  have hN2 := hN
  unfold nextN at hN2
  have hu := rdVar_used s.1 0 0
  unfold NxPost
  rw [← hN]
  generalize rdVar 0 0 s.1 = r at *
  obtain ⟨x, k, er⟩ := r
  simp only at hrv hN2 hu
  have HV := Lib.hid hrv
  clear hrv hN hS h hne
  by_cases h0 : er = 0
  · subst h0
    have hk := hu rfl
    clear hu
    by_cases hx : m < x
    · rw [if_pos (.inr hx)] at hN2
      have HR := Lib.hid hN2
      clear hN2 hA
      have hxi : (x : Int) > (m : Nat) := by omega
      go_enter Try.func79, Try.ntmps79
      go_wp2_with (go_at_call 90; refine HV.out.mono ?_; rintro e w' ⟨rfl, rfl⟩)
      go_ret
      rw [HR.out]
      exact ⟨rfl, HH.out.setBad⟩
    · rw [if_neg (by simp; omega)] at hN2
      have HR := Lib.hid hN2
      clear hN2
      have hxi : ¬ (x : Int) > (m : Nat) := by omega
      cases A with
      | none =>
        exfalso
        have : n = 0 := by
          rcases Nat.eq_zero_or_pos n with h | h
          · exact h
          · obtain ⟨b, o, h, _⟩ := HS.out.2 h
            cases h
        omega
      | some a =>
        obtain ⟨b, o, rfl⟩ := hA a rfl
        have hkn : ((k : Nat) : Int) ≤ (n : Nat) := by omega
        have hkc : ((k : Nat) : Int) ≤ (c : Nat) := by omega
        clear hA
        go_enter Try.func79, Try.ntmps79
        go_wp2_with (go_at_call 90; refine HV.out.mono ?_; rintro e w' ⟨rfl, rfl⟩)
        all_goals
          go_ret
          rw [HR.out]
          have hne : ∀ b' o' n' c', Value.slice (some ⟨b, o, none⟩) n _ = .slice (some ⟨b', o', none⟩) n' c' → Bk b' := HN.out
          have hbC : Bk b := hne _ _ _ _ rfl
          first
            | exact ⟨rfl, HH.out.setB (SlA.drop HS.out (by omega) hnc) (fun b' o' n' c' e => by cases e; exact hbC) (by simp; omega)⟩
            | exact ⟨rfl, HH.out.setB (SlA.dropAll (n := n) (k := k) (by omega) hlen) (fun b' o' n' c' e => by cases e; exact hbC) (by simp; omega)⟩
  · rw [if_pos (.inl h0)] at hN2
    have HR := Lib.hid hN2
    clear hN2 hu hA
    have hei : ((er : Nat) : Int) ≠ 0 := by omega
    go_enter Try.func79, Try.ntmps79
    go_wp2_with (go_at_call 90; refine HV.out.mono ?_; rintro e w' ⟨rfl, rfl⟩)
    go_ret
    rw [HR.out]
    exact ⟨rfl, HH.out.setBad⟩
def TkPost (Bk : Nat → Prop) (w : World) (C : Nat) (s : Cur) (n : Nat) (e : Ending) (w' : World) : Prop := ∃ A c, e = .returned (.slice A (takeN s n).1.length c) ∧ SlA w' (.slice A (takeN s n).1.length c) (takeN s n).1 ∧ (∀ b o, A = some ⟨b, o, none⟩ → w.heap.size ≤ b) ∧ CurAt Bk w' C (takeN s n).2 ∧ Off (· = C) w w'
theorem TkPost.made {Bk : Nat → Prop} {w w1 : World} {C n k c' : Nat} {s : Cur} {A' : Option Addr} {v : Value} (H : CurAt Bk w C s) (hl : s.1.length = n) (hk : ¬ n < k) (hf : FrB w w1 (.slice A' k c') (s.1.take k)) (hv : SlA w v (s.1.drop k)) (hn : ∀ b o n c, v = .slice (some ⟨b, o, none⟩) n c → Bk b) :
    TkPost Bk w C s k (.returned (.slice A' k c')) (w1.setCell ⟨C, 0, none⟩ v) := by
  have hlt := H.lt
  have hb : Off (fun _ => False) w w1 := Off.of_below hf.bel
  have h1 := H.up hf.bel
  have hv1 : SlA w1 v (s.1.drop k) := hv.off hb (fun _ _ _ _ _ => id)
  obtain ⟨g1, g2⟩ := h1.setB hv1 hn (by have := H.len; simp; omega)
  obtain ⟨o1, o2⟩ := hf.own.slA
  have ht : takeN s k = (s.1.take k, (s.1.drop k, s.2)) := by unfold takeN; rw [if_neg (by omega)]
  have hkl : (s.1.take k).length = k := by simp; omega
  unfold TkPost
  rw [ht]
  simp only
  rw [hkl]
  exact ⟨A', c', rfl, o1.off g2 (fun b o n c e e2 => by have := o2 b o n c e; omega), fun b o e => o2 b o k c' (by rw [e]), g1, (hb.mono (fun _ => False.elim)).trans g2⟩
set_option maxRecDepth 100000 in
set_option maxHeartbeats 1000000 in
theorem take_any {Bk : Nat → Prop} {w : World} {C : Nat} {s : Cur} (h : CurAt Bk w C s) {k : Nat} (hk : k < 9223372036854775808) : Calls Try.prog 80 #[.pointer (some ⟨C, 0, none⟩), .int .i64 (k : Nat)] w (TkPost Bk w C s k) := by
  obtain ⟨v, c0, ⟨A, n, c, rfl, hnc, hS, hA⟩, hne⟩ := h.b
  have z0 := h.free 0
  have z1 := h.free 1
  have c1 := h.bad
  have hlen := hS.1
  have hl40 := h.len
  have hlt := h.lt
  have HS := Lib.hid hS
  have HH := Lib.hid h
  have HN := Lib.hid hne
  clear hS h hne
  by_cases hx : n < k
  · have hxi : (k : Int) > (n : Nat) := by omega
    go_enter Try.func80, Try.ntmps80
    go_wp2
    go_ret
    have ht : takeN s k = ([], (s.1, true)) := by unfold takeN; rw [if_pos (by omega)]
    unfold TkPost
    rw [ht]
    obtain ⟨g1, g2⟩ := HH.out.setBad
    exact ⟨_, _, rfl, ⟨_, _, _, rfl, Nat.le_refl _, SBy.nil _ _, fun a e => by cases e⟩, (fun b o e => by cases e), g1, g2⟩
  · have hxi : ¬ (k : Int) > (n : Nat) := by omega
    have hcl := clone_any w A k c (s.1.take k) (HS.out.take (by omega)) (by omega)
    have HC := Lib.hid hcl
    clear hcl
    cases A with
    | none =>
      have hn0 : n = 0 := by
        rcases Nat.eq_zero_or_pos n with h | h
        · exact h
        · obtain ⟨b, o, h, _⟩ := HS.out.2 h
          cases h
      subst hn0
      obtain rfl : k = 0 := by omega
      go_enter Try.func80, Try.ntmps80
      go_wp2_with (go_at_call 45; refine HC.out.mono ?_; rintro e w1 ⟨A', c', rfl, hf, _⟩; have HF := Lib.hid hf; clear hf; have d0 := (HF.out.bel.cell (p := ⟨C, 0, none⟩) hlt).trans c0; have y0 := (HF.out.bel.frozen (p := ⟨C, 0, none⟩) hlt).trans z0)
      all_goals
        go_ret
        exact TkPost.made HH.out hlen hx HF.out ⟨none, 0, c, rfl, by omega, by rw [List.drop_zero]; exact HS.out, fun a e => by cases e⟩ (fun b o n c e => by cases e)
    | some a =>
      obtain ⟨b, o, rfl⟩ := hA a rfl
      have hkc : ((k : Nat) : Int) ≤ (c : Nat) := by omega
      have hkn : ((k : Nat) : Int) ≤ (n : Nat) := by omega
      clear hA
      go_enter Try.func80, Try.ntmps80
      go_wp2_with (go_at_call 45; refine HC.out.mono ?_; rintro e w1 ⟨A', c', rfl, hf, _⟩; have HF := Lib.hid hf; clear hf; have d0 := (HF.out.bel.cell (p := ⟨C, 0, none⟩) hlt).trans c0; have y0 := (HF.out.bel.frozen (p := ⟨C, 0, none⟩) hlt).trans z0)
      all_goals
        go_ret
        have hbC : Bk b := HN.out _ _ _ _ rfl
        first
          | exact TkPost.made HH.out hlen hx HF.out (SlA.drop HS.out (by omega) hnc) (fun b' o' n' c' e => by cases e; exact hbC)
          | exact TkPost.made HH.out hlen hx HF.out (SlA.dropAll (n := n) (k := k) (by omega) hlen) (fun b' o' n' c' e => by cases e; exact hbC)
end Go.Proofs.Ytgkdggidgaifhaa
