/- Bursts, plain: a blob behind a burst is told as it was, or not at all. -/
import Derived.Test.YtlmgihnnphmmhaaYaZ
import Derived.Test.YtlmgihnnphmmhaaML
import Derived.Test.YtlmgihnnphmmhaaDeZ
namespace Go.Proofs.Ytlmgihnnphmmhaa
open Go.RowKit
set_option linter.unusedVariables false
set_option linter.unusedSimpArgs false

/-- One bit is turned. -/
def flipB (L : Bytes) (j : Nat) : Bytes := L.set (j / 8) (b8 (at8 L (j / 8) ^^^ 2 ^ (j % 8)))
theorem flipB_length (L : Bytes) (j : Nat) : (flipB L j).length = L.length := by simp [flipB]
theorem flip_lt (x j : Nat) (h : x < 256) : x ^^^ 2 ^ (j % 8) < 256 :=
  Nat.xor_lt_two_pow (n := 8) h (Nat.pow_lt_pow_right (by omega) (Nat.mod_lt _ (by omega)))
theorem flipB_num {L : Bytes} {j : Nat} (h : j < 8 * L.length) : numB (flipB L j) = numB L ^^^ 2 ^ j := by
  have hq : j / 8 < L.length := by omega
  have e1 : L = L.take (j / 8) ++ (L[j / 8] :: L.drop (j / 8 + 1)) := by
    rw [← List.drop_eq_getElem_cons hq, List.take_append_drop]
  have e2 : flipB L j = L.take (j / 8) ++ (b8 (at8 L (j / 8) ^^^ 2 ^ (j % 8)) :: L.drop (j / 8 + 1)) := by
    unfold flipB
    rw [List.set_eq_take_append_cons_drop, if_pos hq]
  have hl : (L.take (j / 8)).length = j / 8 := by rw [List.length_take, Nat.min_eq_left (by omega)]
  have hx := at8_get hq
  have hlt := at8_lt L (j / 8)
  rw [e2]
  conv => rhs; rw [e1]
  rw [numB_app, numB_app, hl, numB, numB, b8_lt (flip_lt _ _ hlt), ← hx]
  have hA := numB_lt (L.take (j / 8))
  rw [hl] at hA
  generalize numB (L.take (j / 8)) = u at *
  generalize numB (L.drop (j / 8 + 1)) = v at *
  generalize at8 L (j / 8) = x at *
  have e3 : 2 ^ j = 0 + 2 ^ (8 * (j / 8)) * (2 ^ (j % 8) + 2 ^ 8 * 0) := by
    rw [Nat.zero_add, Nat.mul_zero, Nat.add_zero, ← Nat.pow_add]
    congr 1
    omega
  rw [e3, xor_add_pow hA (Nat.pow_pos (by omega)), Nat.xor_zero, show x + 256 * v = x + 2 ^ 8 * v by rfl, xor_add_pow (k := 8) (by omega) (Nat.pow_lt_pow_right (by omega) (Nat.mod_lt _ (by omega))), Nat.xor_zero]
/-- The first i bits of a burst. -/
def burstGo (L : Bytes) (bit pat : Nat) : Nat → Bytes
  | 0 => L
  | i + 1 => if bit + i < 8 * L.length ∧ pat / 2 ^ i % 2 = 1 then flipB (burstGo L bit pat i) (bit + i) else burstGo L bit pat i
theorem burstGo_length (L : Bytes) (bit pat : Nat) : ∀ i, (burstGo L bit pat i).length = L.length
  | 0 => rfl
  | i + 1 => by
    unfold burstGo
    split
    · rw [flipB_length]; exact burstGo_length L bit pat i
    · exact burstGo_length L bit pat i
theorem burstGo_yes {L : Bytes} {bit pat i : Nat} (h : bit + i < 8 * L.length) (hp : pat / 2 ^ i % 2 = 1) : burstGo L bit pat (i + 1) = flipB (burstGo L bit pat i) (bit + i) := by
  conv => lhs; unfold burstGo
  rw [if_pos ⟨h, hp⟩]
theorem burstGo_no {L : Bytes} {bit pat i : Nat} (hp : pat / 2 ^ i % 2 ≠ 1) : burstGo L bit pat (i + 1) = burstGo L bit pat i := by
  conv => lhs; unfold burstGo
  rw [if_neg (fun e => hp e.2)]
theorem burstGo_end {L : Bytes} {bit pat : Nat} : ∀ (k i : Nat), 8 * L.length ≤ bit + i → burstGo L bit pat (i + k) = burstGo L bit pat i
  | 0, i, _ => rfl
  | k + 1, i, h => by
    rw [← Nat.add_assoc]
    conv => lhs; unfold burstGo
    rw [if_neg (fun e => by omega)]
    exact burstGo_end k i h
theorem burstGo_num {L : Bytes} {bit pat : Nat} : ∀ i, ∃ e, e < 2 ^ i ∧ numB L ^^^ numB (burstGo L bit pat i) = 2 ^ bit * e
  | 0 => ⟨0, by simp, by simp [burstGo]⟩
  | i + 1 => by
    obtain ⟨e, he, hx⟩ := burstGo_num (L := L) (bit := bit) (pat := pat) i
    have hp : 2 ^ (i + 1) = 2 ^ i + 2 ^ i := by rw [Nat.pow_succ]; omega
    by_cases h : bit + i < 8 * L.length ∧ pat / 2 ^ i % 2 = 1
    · refine ⟨e ^^^ 2 ^ i, Nat.xor_lt_two_pow (by omega) (by have := Nat.pow_pos (n := i) (show 0 < 2 by omega); omega), ?_⟩
      rw [burstGo_yes h.1 h.2, flipB_num (by rw [burstGo_length]; exact h.1), ← Nat.xor_assoc, hx]
      apply Nat.eq_of_testBit_eq
      intro q
      rw [Nat.testBit_xor, Nat.testBit_two_pow_mul, Nat.testBit_two_pow_mul, Nat.testBit_xor, Nat.testBit_two_pow, Nat.testBit_two_pow]
      by_cases hq : bit ≤ q
      · have : (bit + i = q) = (i = q - bit) := by apply propext; omega
        simp [hq, this]
      · simp [hq, show ¬ bit + i = q by omega]
    · refine ⟨e, by omega, ?_⟩
      rw [show burstGo L bit pat (i + 1) = burstGo L bit pat i by conv => lhs; unfold burstGo
                                                                  rw [if_neg h]]
      exact hx
/-- Bits of bytes are turned: at most 32, one behind the other. -/
def burstB (L : Bytes) (bit : Int) (pat : Nat) : Bytes := if 0 ≤ bit then burstGo L bit.toNat pat 32 else L
theorem burstB_length (L : Bytes) (bit : Int) (pat : Nat) : (burstB L bit pat).length = L.length := by
  unfold burstB
  split
  · exact burstGo_length _ _ _ _
  · rfl
theorem burst_near (L : Bytes) (bit : Int) (pat : Nat) : Near L (burstB L bit pat) := by
  refine ⟨(burstB_length _ _ _).symm, ?_⟩
  unfold burstB
  split
  · obtain ⟨e, he, hx⟩ := burstGo_num (L := L) (bit := bit.toNat) (pat := pat) 32
    exact ⟨_, e, he, hx⟩
  · exact NearN.refl _
theorem frame_near {kd : UInt8} {P F : Bytes} (h : Near (frameB kd P) F) (hP : P.length ≤ 1048576) : F = frameB kd P ∨ unFrame F (13 + P.length) = ([], 20) := by
  have s9 : (sealB (kd :: leB P.length 4)).length = 9 := by simp [sealB_length, leB_length]
  have hl : F.length = 13 + P.length := by rw [← h.len, frameB_length]
  have t9 : (frameB kd P).take 9 = sealB (kd :: leB P.length 4) := by unfold frameB; rw [List.take_append_of_le_length (by omega), List.take_of_length_le (by omega)]
  have d9 : (frameB kd P).drop 9 = sealB P := by unfold frameB; rw [List.drop_append_of_le_length (by omega), List.drop_of_length_le (by omega), List.nil_append]
  have bad : ∀ a b c e, rdFrame F = (a, b, c, e) → e ≠ 0 → unFrame F (13 + P.length) = ([], 20) := fun a b c e hr he => unFrame_bad hr (.inl he)
  by_cases h1 : (openB (F.take 9)).2 ≠ 0
  · refine .inr (bad 0 [] 0 (openB (F.take 9)).2 ?_ h1)
    unfold rdFrame
    rw [if_neg (by omega), if_pos h1]
  · have hh := Near.openB (h.take 9) (by rw [t9, openB_seal]) (by omega)
    have hv : le8 ((F.take 5).drop 1) 4 = P.length := by
      have e1 : F.take 5 = (F.take 9).take 5 := by rw [List.take_take]; rfl
      rw [e1, ← hh, t9]
      unfold sealB
      simp only [List.cons_append]
      rw [List.take_succ_cons, List.drop_succ_cons, List.drop_zero, List.take_append_of_le_length (by rw [leB_length]; omega), List.take_of_length_le (by rw [leB_length]; omega), le8_leB _ _ _ (Nat.le_refl _), Nat.mod_eq_of_lt (by omega)]
    have hq : (F.drop 9).take (P.length + 4) = F.drop 9 := List.take_of_length_le (by rw [List.length_drop]; omega)
    by_cases h2 : (openB (F.drop 9)).2 ≠ 0
    · refine .inr (bad 0 [] 0 (openB (F.drop 9)).2 ?_ h2)
      unfold rdFrame
      rw [if_neg (by omega), if_neg h1, hv, if_neg (by omega), if_neg (by omega), hq, if_pos h2]
    · have hd := Near.openB (h.drop 9) (by rw [d9, openB_seal]) (by omega)
      left
      rw [← List.take_append_drop 9 F, ← hh, ← hd, List.take_append_drop]
/-- Two disks that differ in one sector. -/
theorem joinR_mid {d d' : DkS} {a t : Nat} (hr : ∀ k, k ≠ a + t → d'.read k = d.read k) : ∀ n, t < n → ∃ B, d.joinR a n = d.joinR a t ++ d.read (a + t) ++ B ∧ d'.joinR a n = d.joinR a t ++ d'.read (a + t) ++ B := by
  have h0 : ∀ m, m ≤ t → d'.joinR a m = d.joinR a m := fun m => by
    induction m with
    | zero => intro _; rfl
    | succ m ih =>
      intro hm
      show d'.joinR a m ++ d'.read (a + m) = d.joinR a m ++ d.read (a + m)
      rw [ih (by omega), hr _ (by omega)]
  intro n
  induction n with
  | zero => intro h; omega
  | succ n ih =>
    intro hn
    by_cases hnt : n = t
    · subst hnt
      refine ⟨[], ?_, ?_⟩
      · rw [List.append_nil]; rfl
      · rw [List.append_nil]
        show d'.joinR a n ++ d'.read (a + n) = _
        rw [h0 n (Nat.le_refl _)]
    · obtain ⟨B, e1, e2⟩ := ih (by omega)
      refine ⟨B ++ d.read (a + n), ?_, ?_⟩
      · show d.joinR a n ++ d.read (a + n) = _
        rw [e1]
        simp
      · show d'.joinR a n ++ d'.read (a + n) = _
        rw [e2, hr (a + n) (by omega)]
        simp
/-- A disk of which one sector's bits were turned. -/
structure BurstOf (d d' : DkS) (s : Nat) (bit : Int) (pat : Nat) : Prop where
  z : d'.z = d.z
  at_ : d'.read s = burstB (d.read s) bit pat
  els : ∀ k, k ≠ s → d'.read k = d.read k
theorem BurstOf.getB {f : Nat → Bool} {s : StS} {d' : DkS} {a N k t : Nat} {L : Bytes} {bit : Int} {pat : Nat} (h : BurstOf s.d d' (a + t) bit pat) (hp : Placed f s a N L k) (hs : StOk s) (hL : L.length ≤ 65536) (ht : t < secs s.c.z N) :
    (d'.read (a + t) = s.d.read (a + t) → d'.getB a N = (L, 0)) ∧ (d'.getB a N = (L, 0) ∨ d'.getB a N = ([], 20)) := by
  have hg := hp.get hs hL
  have hN := hp.hN
  have hz := hs.ok.h1
  obtain ⟨B, e1, e2⟩ := joinR_mid (d := s.d) (d' := d') (a := a) (t := t) h.els (secs s.c.z N) ht
  have hj : s.d.joinR a (secs s.c.z N) = padF s.c.z (putF L) := by
    rw [joinR_eq _ hp.rd, joinN_eq]
    exact List.take_of_length_le (by rw [padF_length _ (by omega), hN]; exact Nat.le_refl _)
  have hF : (s.d.joinR a (secs s.c.z N)).take N = putF L := by
    rw [hj]
    unfold padF
    rw [hN]
    exact List.take_left
  have hnear : Near (putF L) ((d'.joinR a (secs s.c.z N)).take N) := by
    rw [← hF, e1, e2, h.at_]
    exact (Near.mid (burst_near _ _ _) _ _).take N
  have hdz : d'.z = s.c.z := h.z.trans hs.dz
  have hrd := putF_read L hL
  rw [← hN] at hrd
  have hP : (packB L).length ≤ 1048576 := by have := packB_le L; omega
  refine ⟨fun e => ?_, ?_⟩
  · unfold DkS.getB
    rw [hdz, e2, e, ← e1, hF]
    exact hrd
  · unfold DkS.getB
    rw [hdz]
    rcases frame_near hnear hP with h1 | h1
    · left
      rw [h1]
      exact hrd
    · right
      rw [hN, putF_length]
      rw [hN, putF_length] at h1
      exact h1
end Go.Proofs.Ytlmgihnnphmmhaa
