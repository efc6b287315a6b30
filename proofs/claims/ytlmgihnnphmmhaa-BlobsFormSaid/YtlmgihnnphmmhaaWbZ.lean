/- The reference's numbers and frames: Get, ReadFrame. -/
import Derived.Test.YtlmgihnnphmmhaaWaZ
namespace Go.Proofs.Ytlmgihnnphmmhaa
open Go.RowKit
set_option linter.unusedVariables false
set_option linter.unusedSimpArgs false

theorem at8_drop (L : Bytes) (i k : Nat) : at8 (L.drop i) k = at8 L (i + k) := by simp [at8, List.getD_eq_getElem?_getD, List.getElem?_drop]
theorem le8_head (L : Bytes) (n : Nat) : le8 L (n + 1) = at8 L 0 + 256 * le8 (L.drop 1) n := by
  induction n with
  | zero => simp [le8]
  | succ n ih =>
    rw [show le8 L (n + 1 + 1) = le8 L (n + 1) + at8 L (n + 1) * 256 ^ (n + 1) from rfl, ih, show le8 (L.drop 1) (n + 1) = le8 (L.drop 1) n + at8 (L.drop 1) n * 256 ^ n from rfl, at8_drop, Nat.mul_add, Nat.pow_succ, Nat.add_comm 1 n]
    rw [show at8 L (n + 1) * (256 ^ n * 256) = 256 * (at8 L (n + 1) * 256 ^ n) by rw [Nat.mul_comm (256 ^ n) 256]; exact Nat.mul_left_comm _ _ _]
    omega
set_option maxRecDepth 100000 in
set_option maxHeartbeats 1000000 in
theorem rget_any (w : World) (A : Option Addr) (n c : Nat) (L : Bytes) (k : Nat) (hL : SBy w A n L) (hk : k ≤ n) (h8 : k ≤ 8) (hn : n ≤ 2 ^ 40) :
    Calls Try.prog 61 #[.slice A n c, .int .i64 (k : Nat)] w fun e w' => e = .returned (.tuple #[.int .u64 (le8 L k : Nat), .bool true]) ∧ w' = w := by
  have HL := Lib.hid hL
  clear hL
  have d1 : ¬ (k : Int) < 0 := by omega
  have d2 : ¬ (k : Int) > 8 := by omega
  have d3 : ¬ (n : Int) < (k : Int) := by omega
  go_enter Try.func61, Try.ntmps61
  go_wp2
  go_loop [6, 7] (fun v i => ∃ j : Nat, j ≤ k ∧ i = .int .i64 ((j : Int) - 1) ∧ v = .int .u64 (le8 (L.drop j) (k - j) : Nat)) (fun _ i => (intOf i + 1).toNat)
  case atStart => exact ⟨k, Nat.le_refl _, rfl, by rw [Nat.sub_self]; rfl⟩
  case round =>
    obtain ⟨j, hj, rfl, rfl⟩ := hrel
    cases j with
    | succ j =>
      obtain ⟨b, o, rfl, hb, hc⟩ := HL.out.2 (by omega)
      have c0 := hc j (by omega)
      have hlt := at8_lt L j
      have hst : le8 (L.drop j) (k - j) = at8 L j + 256 * le8 (L.drop (j + 1)) (k - (j + 1)) := by
        rw [show k - j = (k - (j + 1)) + 1 by omega, le8_head, at8_drop, Nat.add_zero, List.drop_drop]
      have hle : le8 (L.drop j) (k - j) < 18446744073709551616 := by
        have h1 := le8_lt (L.drop j) (k - j)
        have hp : 256 ^ (k - j) ≤ 256 ^ 8 := Nat.pow_le_pow_right (by omega) (by omega)
        have e8 : (256 : Nat) ^ 8 = 18446744073709551616 := by decide
        omega
      have HST := Lib.hid hst
      rw [hst] at hle
      generalize le8 (L.drop (j + 1)) (k - (j + 1)) = v at *
      generalize at8 L j = y at *
      have e1 := w64_of (n := y) (by omega)
      have e2 : IntKind.u64.wrap ((v : Int) * 256) = ((v * 256 : Nat) : Int) := by
        rw [show (v : Int) * 256 = ((v * 256 : Nat) : Int) by simp]
        exact w64_of (by omega)
      have e3 : IntKind.u64.wrap (((v * 256 : Nat) : Int) + (y : Int)) = ((y + 256 * v : Nat) : Int) := by
        rw [show ((v * 256 : Nat) : Int) + (y : Int) = ((y + 256 * v : Nat) : Int) by omega]
        exact w64_of (by omega)
      have i1 : ((j + 1 : Nat) : Int) - 1 ≥ 0 := by omega
      have i2 : ((j + 1 : Nat) : Int) - 1 = (j : Int) := by omega
      clear hc hst
      rw [i2] at i1 ⊢
      go_wp2
      go_round
      case rel => exact ⟨j, by omega, by go_num, by rw [HST.out]; exact congrArg _ (by omega)⟩
      case measure => simp [intOf]
    | zero =>
      have i1 : ¬ (((0 : Nat) : Int) - 1 ≥ 0) := by omega
      have HE : Hid (le8 (L.drop 0) (k - 0) = le8 L k) := rfl
      rw [List.drop_zero, Nat.sub_zero] 
      go_wp2
      go_ret2
      exact ⟨rfl, rfl⟩
set_option maxRecDepth 100000 in
set_option maxHeartbeats 2000000 in
/-- A frame is read. -/
theorem rreadFrame_ok (w : World) (A : Option Addr) (n c : Nat) (kd : UInt8) (M r : Bytes) (hL : SBy w A n (frameB kd M ++ r)) (hc : n ≤ c) (hM : M.length ≤ 1048576) (hn : n ≤ 2 ^ 40) :
    Calls Try.prog 24 #[.slice A n c] w fun e w' => ∃ A' c', e = .returned (.tuple #[.int .u8 (kd.toNat : Nat), .slice A' M.length c', .int .i64 ((13 + M.length : Nat) : Int), .int .i64 0]) ∧ FrB w w' (.slice A' M.length c') M := by
  have hl := hL.1
  rw [List.length_append, frameB_length] at hl
  obtain ⟨b, o, rfl, hb, _⟩ := hL.2 (by omega)
  obtain ⟨m, hm⟩ : ∃ m, M.length = m := ⟨_, rfl⟩
  rw [hm] at hl hM
  have hh : (sealB (kd :: leB m 4)).length = 9 := by simp [sealB_length, leB_length]
  have P1 : Hid (SBy w (some ⟨b, o, none⟩) 9 (sealB (kd :: leB m 4))) := by
    have h1 := hL.part 0 9 (by omega) (by omega)
    have e1 : (List.drop 0 (frameB kd M ++ r)).take (9 - 0) = sealB (kd :: leB m 4) := by
      rw [List.drop_zero, Nat.sub_zero]
      unfold frameB
      rw [hm, List.append_assoc]
      exact List.take_left' hh
    rw [e1] at h1
    exact h1
  have P2 : Hid (SBy w (some ⟨b, o + 9, none⟩) (4 + m) (sealB M)) := by
    have h1 := hL.part 9 (13 + m) (by omega) (by omega)
    have e1 : (List.drop 9 (frameB kd M ++ r)).take (13 + m - 9) = sealB M := by
      unfold frameB
      rw [hm, List.append_assoc, List.drop_left' hh]
      exact List.take_left' (by rw [sealB_length, hm]; omega)
    rw [e1] at h1
    rw [show 4 + m = 13 + m - 9 by omega]
    exact h1
  have HM := Lib.hid hm
  have HO1 : Hid (Calls Try.prog 60 #[.slice (some ⟨b, o, none⟩) 9 c] w fun e w' => ∃ A' c', e = .returned (.tuple #[.slice A' 5 c', .int .i64 0]) ∧ FrB w w' (.slice A' 5 c') (kd :: leB m 4)) := by
    have h := ropen_ok w (some ⟨b, o, none⟩) 9 c (kd :: leB m 4) P1.out (by omega) (by omega)
    rwa [show (kd :: leB m 4).length = 5 by simp [leB_length]] at h
  have HO2 : Hid (∀ (w' : World), Below w.heap.size w w' → Calls Try.prog 60 #[.slice (some ⟨b, o + 9, none⟩) (13 + m - 9) (c - 9)] w' fun e w'' => ∃ A' c', e = .returned (.tuple #[.slice A' m c', .int .i64 0]) ∧ FrB w' w'' (.slice A' m c') M) := fun w' h => by
    have h := ropen_ok w' (some ⟨b, o + 9, none⟩) (13 + m - 9) (c - 9) M (by rw [show 13 + m - 9 = 4 + m by omega]; exact P2.out.up h) (by omega) (by omega)
    rwa [hm] at h
  have hle : le8 (leB m 4) 4 = m := by
    rw [le8_leB _ _ _ (Nat.le_refl _)]
    exact Nat.mod_eq_of_lt (by omega)
  have HLE := Lib.hid hle
  clear hL hle hh
  rw [hm]
  go_enter Try.func24, Try.ntmps24
  have i1 : ¬ (n : Int) < 9 := by omega
  have i2 : (9 : Int) ≤ (n : Int) := by omega
  have i3 : (9 : Int) ≤ (c : Int) := by omega
  go_wp2_with fail
  refine HO1.out.mono ?_
  rintro _ w1 ⟨A1, c1, rfl, hf1⟩
  have hs1 := hf1.sby
  have hc1 := hf1.cap
  obtain ⟨b1, o1, rfl, hb1, hcc⟩ := hs1.2 (by omega)
  have k0 := hcc 0 (by omega)
  rw [Nat.add_zero] at k0
  have ek : at8 (kd :: leB m 4) 0 = kd.toNat := by simp [at8]
  rw [ek] at k0
  have P3 : Hid (SBy w1 (some ⟨b1, o1 + 1, none⟩) 4 (leB m 4)) := by
    have h1 := hs1.part 1 5 (by omega) (by omega)
    have e1 : (List.drop 1 (kd :: leB m 4)).take (5 - 1) = leB m 4 := by
      rw [List.drop_one, List.tail_cons]
      exact List.take_of_length_le (by simp [leB_length])
    rw [e1] at h1
    exact h1
  have HG := Lib.hid (rget_any w1 (some ⟨b1, o1 + 1, none⟩) 4 (c1 - 1) (leB m 4) 4 P3.out (Nat.le_refl _) (by omega) (by omega))
  have HB1 : Hid (Below w.heap.size w w1) := hf1.bel
  have HF1 := Lib.hid hf1
  have hkl := UInt8.toNat_lt kd
  have j1 : (1 : Int) ≤ 5 := by omega
  have j2 : (5 : Int) ≤ (c1 : Int) := by omega
  clear hf1 hs1 hcc HO1 ek
  go_wp2_with fail
  refine HG.out.mono ?_
  rintro _ w1 ⟨rfl, rfl⟩
  rw [HLE.out]
  clear HG P3
  have j3 : ¬ (m : Int) > 1048576 := by omega
  have e1 : IntKind.i64.wrap (m : Int) = (m : Int) := IntWalk.i64_in _ (by omega)
  have e2 : IntKind.i64.wrap (13 + (m : Int)) = 13 + (m : Int) := IntWalk.i64_in _ (by omega)
  have j4 : ¬ (n : Int) < 13 + (m : Int) := by omega
  have j5 : (13 : Int) + (m : Int) ≤ (c : Int) := by omega
  have j6 : (9 : Int) ≤ 13 + (m : Int) := by omega
  go_wp2_with fail
  refine (HO2.out _ HB1.out).mono ?_
  rintro _ w2 ⟨A2, c2, rfl, hf2⟩
  have HF2 := Lib.hid (hf2.elder HB1.out)
  have k2 := (hf2.bel.cell (p := ⟨b1, o1, none⟩) hb1).trans k0
  have hb2 : b1 < w2.heap.size := Nat.lt_of_lt_of_le hb1 hf2.bel.size
  clear hf2 HO2 k0
  go_wp2
  refine bodyPost_ret (results_tmp4 rfl _ _ _) rfl ?_
  exact ⟨_, _, rfl, HF2.out⟩
end Go.Proofs.Ytlmgihnnphmmhaa
