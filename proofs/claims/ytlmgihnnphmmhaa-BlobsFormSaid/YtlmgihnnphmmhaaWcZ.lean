/- The reference's ReadVar. -/
import Derived.Test.YtlmgihnnphmmhaaMB
namespace Go.Proofs.Ytlmgihnnphmmhaa
open Go.RowKit
set_option linter.unusedVariables false
set_option linter.unusedSimpArgs false

/-- The number of the first j bytes, seven bits each. -/
def lo7 (L : Bytes) : Nat → Nat
  | 0 => 0
  | j + 1 => lo7 L j + at8 L j % 128 * 128 ^ j
theorem lo7_lt (L : Bytes) (j : Nat) : lo7 L j < 128 ^ j := by
  induction j with
  | zero => simp [lo7]
  | succ j ih =>
    have h1 : at8 L j % 128 < 128 := Nat.mod_lt _ (by omega)
    have h2 : at8 L j % 128 * 128 ^ j ≤ 127 * 128 ^ j := Nat.mul_le_mul_right _ (by omega)
    simp only [lo7, Nat.pow_succ]
    omega
/-- Behind j bytes that go on. -/
def RvAt (L : Bytes) (j : Nat) : Prop := if j = 10 then rdVar 0 0 L = (0, 0, 22) else rdVar 0 0 L = rdVar j (lo7 L j) (L.drop j)
theorem RvAt.step {L : Bytes} {j : Nat} (h : RvAt L j) (hj : j < L.length) (h10 : j < 10) (hy : 128 ≤ at8 L j) : RvAt L (j + 1) := by
  unfold RvAt at h
  rw [if_neg (by omega)] at h
  have hd : L.drop j = L[j] :: L.drop (j + 1) := List.drop_eq_getElem_cons hj
  have ha : at8 L j = (L[j]).toNat := at8_get hj
  rw [hd, rdVar_cons, ← ha] at h
  unfold RvAt
  by_cases h9 : j = 9
  · subst h9
    rw [if_pos (.inr ⟨rfl, by omega⟩)] at h
    rw [if_pos rfl]
    exact h
  · rw [if_neg (by omega), if_pos hy] at h
    rw [if_neg (by omega)]
    exact h
theorem RvAt.stop {L : Bytes} {j : Nat} (h : RvAt L j) (hj : j < L.length) (h10 : j < 10) (hy : at8 L j < 128) :
    rdVar 0 0 L = if (0 < j ∧ at8 L j = 0) ∨ (j = 9 ∧ 1 < at8 L j) then (0, 0, 22) else (lo7 L (j + 1), j + 1, 0) := by
  unfold RvAt at h
  rw [if_neg (by omega)] at h
  have hd : L.drop j = L[j] :: L.drop (j + 1) := List.drop_eq_getElem_cons hj
  have ha : at8 L j = (L[j]).toNat := at8_get hj
  rw [hd, rdVar_cons, ← ha] at h
  rw [h]
  by_cases h9 : j = 9 ∧ 1 < at8 L j
  · rw [if_pos (.inr h9), if_pos (.inr h9)]
  · rw [if_neg (by omega), if_neg (by omega)]
    by_cases h0 : 0 < j ∧ at8 L j = 0
    · rw [if_pos ⟨h0.2, h0.1⟩, if_pos (.inl h0)]
    · rw [if_neg (fun e => h0 ⟨e.2, e.1⟩), if_neg (by omega)]
      rfl
theorem RvAt.none {L : Bytes} {j : Nat} (h : RvAt L j) (hj : j = L.length) (h10 : j < 10) : rdVar 0 0 L = (0, 0, 21) := by
  unfold RvAt at h
  rw [if_neg (by omega), List.drop_eq_nil_of_le (by omega)] at h
  exact h
theorem lo7_u64 {L : Bytes} {j : Nat} (h10 : j < 10) (h9 : ¬ (j = 9 ∧ 1 < at8 L j)) : lo7 L (j + 1) < 18446744073709551616 := by
  have e : (128 : Nat) ^ 9 = 9223372036854775808 := by decide
  by_cases h : j = 9
  · subst h
    have h1 := lo7_lt L 9
    have h2 : at8 L 9 % 128 ≤ 1 := by omega
    have h3 : at8 L 9 % 128 * 128 ^ 9 ≤ 1 * 128 ^ 9 := Nat.mul_le_mul_right _ h2
    show lo7 L 9 + at8 L 9 % 128 * 128 ^ 9 < _
    omega
  · have h1 := lo7_lt L (j + 1)
    have h2 : 128 ^ (j + 1) ≤ 128 ^ 9 := Nat.pow_le_pow_right (by omega) (by omega)
    omega
theorem rv_step {L : Bytes} {q x V : Nat} (h : lo7 L (q + 1) + 128 ^ (q + 1) * x = V) (hV : V < 18446744073709551616) :
    ∃ x', lo7 L q + 128 ^ q * x' = V ∧ x' = x * 128 + at8 L q % 128 ∧ x' < 18446744073709551616 := by
  have hst : lo7 L q + 128 ^ q * (x * 128 + at8 L q % 128) = V := by
    rw [← h]
    show _ = lo7 L q + at8 L q % 128 * 128 ^ q + 128 ^ (q + 1) * x
    rw [Nat.mul_add, Nat.pow_succ, Nat.mul_comm x 128, ← Nat.mul_assoc, Nat.mul_comm (128 ^ q) (at8 L q % 128)]
    omega
  refine ⟨_, hst, rfl, ?_⟩
  have h2 : 1 * (x * 128 + at8 L q % 128) ≤ 128 ^ q * (x * 128 + at8 L q % 128) := Nat.mul_le_mul_right _ (Nat.pow_pos (by omega))
  omega
theorem rv_nums {z x x' : Nat} (hz : z < 256) (h : x' = x * 128 + z % 128) (hx : x' < 18446744073709551616) :
    (z : Int).tmod 128 = ((z % 128 : Nat) : Int) ∧ IntKind.u8.wrap ((z % 128 : Nat) : Int) = ((z % 128 : Nat) : Int) ∧ IntKind.u64.wrap ((z % 128 : Nat) : Int) = ((z % 128 : Nat) : Int) ∧ IntKind.u64.wrap ((x : Int) * 128) = ((x * 128 : Nat) : Int) ∧ IntKind.u64.wrap (((x * 128 : Nat) : Int) + ((z % 128 : Nat) : Int)) = ((x' : Nat) : Int) := by
  refine ⟨?_, w8_of (by omega), w64_of (by omega), ?_, ?_⟩
  · rw [Int.tmod_eq_emod_of_nonneg (by omega)]
    omega
  · rw [show (x : Int) * 128 = ((x * 128 : Nat) : Int) by simp]
    exact w64_of (by omega)
  · rw [show ((x * 128 : Nat) : Int) + ((z % 128 : Nat) : Int) = ((x' : Nat) : Int) by omega]
    exact w64_of hx
set_option maxRecDepth 100000 in
set_option maxHeartbeats 1000000 in
theorem rreadVar_any (w : World) (A : Option Addr) (n c : Nat) (L : Bytes) (hL : SBy w A n L) (hn : n ≤ 2 ^ 40) :
    Calls Try.prog 62 #[.slice A n c] w (RvPost L w) := by
  have hl := hL.1
  have HL := Lib.hid hL
  clear hL
  have HR0 : Hid (RvAt L 0) := by unfold RvAt; rw [if_neg (by omega)]; rfl
  go_enter Try.func62, Try.ntmps62
  go_wp2
  go_loop [5] (fun i => ∃ j : Nat, j ≤ n ∧ j ≤ 10 ∧ i = .int .i64 (j : Nat) ∧ RvAt L j) (fun i => n - (intOf i).toNat)
  case atStart => exact ⟨0, Nat.zero_le _, Nat.zero_le _, rfl, HR0.out⟩
  case round =>
    obtain ⟨j, hj, hj10, rfl, hr⟩ := hrel
    have HR := Lib.hid hr
    clear hr HR0
    by_cases h10 : j = 10
    · subst h10
      have HE := HR.out
      unfold RvAt at HE
      rw [if_pos rfl] at HE
      have HE2 := Lib.hid HE
      clear HE
      have q0 : ¬ ((10 : Nat) : Int) < 10 := by omega
      by_cases hjn : 10 < n
      · have q1 : ((10 : Nat) : Int) < (n : Int) := by omega
        go_wp2
        go_ret3
        unfold RvPost
        rw [HE2.out]
        exact ⟨rfl, rfl⟩
      · have q1 : ¬ ((10 : Nat) : Int) < (n : Int) := by omega
        go_wp2
        go_ret3
        unfold RvPost
        rw [HE2.out]
        exact ⟨rfl, rfl⟩
    · have q0 : (j : Int) < 10 := by omega
      have q2 : ((j : Int) == 10) = false := beq_eq_false_iff_ne.2 (by omega)
      by_cases hjn : j < n
      · obtain ⟨b, o, rfl, hb, hc⟩ := HL.out.2 (by omega)
        have c0 := hc j hjn
        have q1 : (j : Int) < (n : Int) := by omega
        have q3 : ((j : Int) == (n : Int)) = false := beq_eq_false_iff_ne.2 (by omega)
        have hlt := at8_lt L j
        by_cases hy : 128 ≤ at8 L j
        · have HN := Lib.hid (HR.out.step (by omega) (by omega) hy)
          obtain ⟨y, hye⟩ : ∃ y, at8 L j = y := ⟨_, rfl⟩
          rw [hye] at c0 hlt hy
          have q4 : (y : Int) ≥ 128 := by omega
          clear hye hc
          go_wp2
          go_round
          case rel => exact ⟨j + 1, by omega, by omega, by go_num, HN.out⟩
          case measure => simp [intOf]; omega
        · have HN := Lib.hid (HR.out.stop (by omega) (by omega) (by omega))
          have HU := Lib.hid (fun h => lo7_u64 (L := L) (j := j) (by omega) h)
          obtain ⟨y, hye⟩ : ∃ y, at8 L j = y := ⟨_, rfl⟩
          rw [hye] at c0 hlt hy HN HU
          have q4 : ¬ (y : Int) ≥ 128 := by omega
          by_cases hbad : (0 < j ∧ y = 0) ∨ (j = 9 ∧ 1 < y)
          · have HN2 := HN.out
            rw [if_pos hbad] at HN2
            have HN3 := Lib.hid HN2
            clear HN HN2 hye hc
            rcases hbad with ⟨h1, rfl⟩ | ⟨rfl, h1⟩
            · have q5 : (j : Int) > 0 := by omega
              go_wp2
              go_ret3
              unfold RvPost
              rw [HN3.out]
              exact ⟨rfl, rfl⟩
            · have q5 : (y : Int) > 1 := by omega
              have q6 : ((y : Int) == 0) = false := beq_eq_false_iff_ne.2 (by omega)
              go_wp2
              go_ret3
              unfold RvPost
              rw [HN3.out]
              exact ⟨rfl, rfl⟩
          · have HN2 := HN.out
            rw [if_neg hbad] at HN2
            have HN3 := Lib.hid HN2
            have HU2 := Lib.hid (HU.out (fun e => hbad (.inr e)))
            have HC := HL
            clear HN HN2 HU hye hc
            have key : (j = 0 ∧ ((j : Int) == 9) = false) ∨ ((j : Int) > 0 ∧ ((y : Int) == 0) = false ∧ ((j : Int) == 9) = false) ∨ (j = 9 ∧ ((y : Int) == 0) = false ∧ ¬ (y : Int) > 1) := by
              rcases Nat.eq_zero_or_pos j with h | h
              · exact .inl ⟨h, beq_eq_false_iff_ne.2 (by omega)⟩
              · by_cases h9 : j = 9
                · exact .inr (.inr ⟨h9, beq_eq_false_iff_ne.2 (by omega), by omega⟩)
                · exact .inr (.inl ⟨by omega, beq_eq_false_iff_ne.2 (by omega), beq_eq_false_iff_ne.2 (by omega)⟩)
            rcases key with ⟨rfl, k1⟩ | ⟨k1, k2, k3⟩ | ⟨rfl, k1, k2⟩
            · rw [Nat.add_zero] at c0
              obtain ⟨V, hVe⟩ : ∃ V, lo7 L (0 + 1) = V := ⟨_, rfl⟩
              rw [hVe] at HN3 HU2
              have HVE := Lib.hid hVe
              clear hVe
              go_wp2
              go_loop [6, 7] (fun v i => ∃ q x : Nat, q ≤ 0 + 1 ∧ i = .int .i64 ((q : Int) - 1) ∧ v = .int .u64 (x : Nat) ∧ lo7 L q + 128 ^ q * x = V) (fun _ i => (intOf i + 1).toNat)
              case atStart => exact ⟨0 + 1, 0, Nat.le_refl _, by first | rfl | (congr 1; omega), rfl, by rw [Nat.mul_zero, Nat.add_zero]; exact HVE.out⟩
              case round =>
                obtain ⟨q, x, hq, rfl, rfl, hx⟩ := hrel
                have HX := Lib.hid hx
                clear hx
                cases q with
                | zero =>
                  have i1 : ¬ (((0 : Nat) : Int) - 1 ≥ 0) := by omega
                  have hxe : x = V := by have h := HX.out; rw [Nat.pow_zero, Nat.one_mul] at h; exact (Nat.zero_add x).symm.trans h
                  subst hxe
                  go_wp2
                  go_ret3
                  unfold RvPost
                  rw [HN3.out]
                  exact ⟨rfl, rfl⟩
                | succ q =>
                  obtain ⟨b2, o2, e2, hb2, hc2⟩ := HC.out.2 (by omega)
                  injection e2 with e2
                  injection e2 with e2 e3
                  subst e2 e3
                  have c1 := hc2 q (by omega)
                  have hlt2 := at8_lt L q
                  obtain ⟨x', hst, hx', hxl⟩ := rv_step HX.out HU2.out
                  have HST := Lib.hid hst
                  obtain ⟨z, hz⟩ : ∃ z, at8 L q = z := ⟨_, rfl⟩
                  rw [hz] at c1 hlt2 hx'
                  obtain ⟨t0, t1, t2, t3, t4⟩ := rv_nums hlt2 hx' hxl
                  have i1 : ((q + 1 : Nat) : Int) - 1 ≥ 0 := by omega
                  have i2 : ((q + 1 : Nat) : Int) - 1 = (q : Int) := by omega
                  have i3 : (q : Int) < (n : Int) := by omega
                  clear hc2 hst hz HX HN3 HU2 hx' hxl
                  rw [i2] at i1 ⊢
                  go_wp2
                  go_round
                  case rel =>
                    refine ⟨q, x', by omega, by go_num, ?_, HST.out⟩
                    rw [show (x : Int) * 128 + (z : Int) % 128 = ((x * 128 : Nat) : Int) + ((z % 128 : Nat) : Int) by omega, t4]
                  case measure => simp [intOf]
            · obtain ⟨V, hVe⟩ : ∃ V, lo7 L (j + 1) = V := ⟨_, rfl⟩
              rw [hVe] at HN3 HU2
              have HVE := Lib.hid hVe
              clear hVe
              go_wp2
              go_loop [6, 7] (fun v i => ∃ q x : Nat, q ≤ j + 1 ∧ i = .int .i64 ((q : Int) - 1) ∧ v = .int .u64 (x : Nat) ∧ lo7 L q + 128 ^ q * x = V) (fun _ i => (intOf i + 1).toNat)
              case atStart => exact ⟨j + 1, 0, Nat.le_refl _, by first | rfl | (congr 1; omega), rfl, by rw [Nat.mul_zero, Nat.add_zero]; exact HVE.out⟩
              case round =>
                obtain ⟨q, x, hq, rfl, rfl, hx⟩ := hrel
                have HX := Lib.hid hx
                clear hx
                cases q with
                | zero =>
                  have i1 : ¬ (((0 : Nat) : Int) - 1 ≥ 0) := by omega
                  have hxe : x = V := by have h := HX.out; rw [Nat.pow_zero, Nat.one_mul] at h; exact (Nat.zero_add x).symm.trans h
                  subst hxe
                  go_wp2
                  go_ret3
                  unfold RvPost
                  rw [HN3.out]
                  exact ⟨rfl, rfl⟩
                | succ q =>
                  obtain ⟨b2, o2, e2, hb2, hc2⟩ := HC.out.2 (by omega)
                  injection e2 with e2
                  injection e2 with e2 e3
                  subst e2 e3
                  have c1 := hc2 q (by omega)
                  have hlt2 := at8_lt L q
                  obtain ⟨x', hst, hx', hxl⟩ := rv_step HX.out HU2.out
                  have HST := Lib.hid hst
                  obtain ⟨z, hz⟩ : ∃ z, at8 L q = z := ⟨_, rfl⟩
                  rw [hz] at c1 hlt2 hx'
                  obtain ⟨t0, t1, t2, t3, t4⟩ := rv_nums hlt2 hx' hxl
                  have i1 : ((q + 1 : Nat) : Int) - 1 ≥ 0 := by omega
                  have i2 : ((q + 1 : Nat) : Int) - 1 = (q : Int) := by omega
                  have i3 : (q : Int) < (n : Int) := by omega
                  clear hc2 hst hz HX HN3 HU2 hx' hxl
                  rw [i2] at i1 ⊢
                  go_wp2
                  go_round
                  case rel =>
                    refine ⟨q, x', by omega, by go_num, ?_, HST.out⟩
                    rw [show (x : Int) * 128 + (z : Int) % 128 = ((x * 128 : Nat) : Int) + ((z % 128 : Nat) : Int) by omega, t4]
                  case measure => simp [intOf]
            · obtain ⟨V, hVe⟩ : ∃ V, lo7 L (9 + 1) = V := ⟨_, rfl⟩
              rw [hVe] at HN3 HU2
              have HVE := Lib.hid hVe
              clear hVe
              go_wp2
              go_loop [6, 7] (fun v i => ∃ q x : Nat, q ≤ 9 + 1 ∧ i = .int .i64 ((q : Int) - 1) ∧ v = .int .u64 (x : Nat) ∧ lo7 L q + 128 ^ q * x = V) (fun _ i => (intOf i + 1).toNat)
              case atStart => exact ⟨9 + 1, 0, Nat.le_refl _, by first | rfl | (congr 1; omega), rfl, by rw [Nat.mul_zero, Nat.add_zero]; exact HVE.out⟩
              case round =>
                obtain ⟨q, x, hq, rfl, rfl, hx⟩ := hrel
                have HX := Lib.hid hx
                clear hx
                cases q with
                | zero =>
                  have i1 : ¬ (((0 : Nat) : Int) - 1 ≥ 0) := by omega
                  have hxe : x = V := by have h := HX.out; rw [Nat.pow_zero, Nat.one_mul] at h; exact (Nat.zero_add x).symm.trans h
                  subst hxe
                  go_wp2
                  go_ret3
                  unfold RvPost
                  rw [HN3.out]
                  exact ⟨rfl, rfl⟩
                | succ q =>
                  obtain ⟨b2, o2, e2, hb2, hc2⟩ := HC.out.2 (by omega)
                  injection e2 with e2
                  injection e2 with e2 e3
                  subst e2 e3
                  have c1 := hc2 q (by omega)
                  have hlt2 := at8_lt L q
                  obtain ⟨x', hst, hx', hxl⟩ := rv_step HX.out HU2.out
                  have HST := Lib.hid hst
                  obtain ⟨z, hz⟩ : ∃ z, at8 L q = z := ⟨_, rfl⟩
                  rw [hz] at c1 hlt2 hx'
                  obtain ⟨t0, t1, t2, t3, t4⟩ := rv_nums hlt2 hx' hxl
                  have i1 : ((q + 1 : Nat) : Int) - 1 ≥ 0 := by omega
                  have i2 : ((q + 1 : Nat) : Int) - 1 = (q : Int) := by omega
                  have i3 : (q : Int) < (n : Int) := by omega
                  clear hc2 hst hz HX HN3 HU2 hx' hxl
                  rw [i2] at i1 ⊢
                  go_wp2
                  go_round
                  case rel =>
                    refine ⟨q, x', by omega, by go_num, ?_, HST.out⟩
                    rw [show (x : Int) * 128 + (z : Int) % 128 = ((x * 128 : Nat) : Int) + ((z % 128 : Nat) : Int) by omega, t4]
                  case measure => simp [intOf]
      · obtain rfl : j = n := by omega
        have HE := Lib.hid (HR.out.none hl.symm (by omega))
        have q1 : ¬ (j : Int) < (j : Int) := by omega
        go_wp2
        go_ret3
        unfold RvPost
        rw [HE.out]
        exact ⟨rfl, rfl⟩
end Go.Proofs.Ytlmgihnnphmmhaa
