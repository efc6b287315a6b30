/- The reference's Unpack, where it succeeds. -/
import Derived.Test.YtlmgihnnphmmhaaWcZ
import Derived.Test.YtlmgihnnphmmhaaMH
namespace Go.Proofs.Ytlmgihnnphmmhaa
open Go.RowKit
set_option linter.unusedVariables false
set_option linter.unusedSimpArgs false

theorem tokB_cases {most : Nat} {out b : Bytes} (h : (tokB most out b).2.2 = 0) :
    ∃ t n, rdVar 0 0 b = (t, n, 0) ∧ t / 2 ≠ 0 ∧ t / 2 ≤ most - out.length ∧ ((t % 2 = 1 ∧ ∃ d m, rdVar 0 0 (b.drop n) = (d, m, 0) ∧ d ≠ 0 ∧ d ≤ out.length ∧ tokB most out b = (copyB out d (t / 2), (b.drop n).drop m, 0)) ∨ (t % 2 = 0 ∧ t / 2 ≤ (b.drop n).length ∧ tokB most out b = (out ++ (b.drop n).take (t / 2), (b.drop n).drop (t / 2), 0))) := by
  obtain ⟨⟨t, n, e⟩, hr⟩ : ∃ r, rdVar 0 0 b = r := ⟨_, rfl⟩
  unfold tokB at h
  have hT : tokB most out b = tokB most out b := rfl
  conv at hT => rhs; unfold tokB
  rw [hr] at h hT
  simp only at h hT
  by_cases h1 : e ≠ 0
  · rw [if_pos h1] at h; exact absurd h h1
  rw [if_neg h1] at h hT
  obtain rfl : e = 0 := by omega
  by_cases h2 : t / 2 = 0
  · rw [if_pos h2] at h; cases h
  rw [if_neg h2] at h hT
  by_cases h3 : t % 2 = 1
  · rw [if_pos h3] at h hT
    obtain ⟨⟨d, m, e2⟩, hr2⟩ : ∃ r, rdVar 0 0 (b.drop n) = r := ⟨_, rfl⟩
    rw [hr2] at h hT
    simp only at h hT
    by_cases h4 : e2 ≠ 0
    · rw [if_pos h4] at h; exact absurd h h4
    rw [if_neg h4] at h hT
    obtain rfl : e2 = 0 := by omega
    by_cases h5 : d = 0 ∨ out.length < d
    · rw [if_pos h5] at h; cases h
    rw [if_neg h5] at h hT
    by_cases h6 : most - out.length < t / 2
    · rw [if_pos h6] at h; cases h
    rw [if_neg h6] at hT
    exact ⟨t, n, hr, h2, by omega, .inl ⟨h3, d, m, hr2, by omega, by omega, hT⟩⟩
  · rw [if_neg h3] at h hT
    by_cases h6 : most - out.length < t / 2
    · rw [if_pos h6] at h; cases h
    rw [if_neg h6] at h hT
    by_cases h7 : (b.drop n).length < t / 2
    · rw [if_pos h7] at h; cases h
    rw [if_neg h7] at hT
    exact ⟨t, n, hr, h2, by omega, .inr ⟨by omega, by omega, hT⟩⟩
theorem toksB_step {most : Nat} {out b o : Bytes} (hb : b ≠ []) (h : toksB most out b = (o, 0)) : (tokB most out b).2.2 = 0 := by
  by_cases he : (tokB most out b).2.2 = 0
  · exact he
  · have := toksB_bad hb he
    rw [h] at this
    exact this.symm
theorem copyB_succ' (out : Bytes) (d k : Nat) : copyB out d (k + 1) = copyB out d k ++ [(copyB out d k).getD ((copyB out d k).length - d) 0] := by
  induction k generalizing out with
  | zero => rfl
  | succ k ih =>
    conv => lhs; unfold copyB
    rw [ih]
    rfl
/-- A part of what came in. -/
structure XAt (w : World) (A : Option Addr) (c : Nat) (b : Bytes) : Prop where
  s : SBy w A b.length b
  c : b.length ≤ c
  l : b.length ≤ 1073741824
theorem XAt.drop {w : World} {g o c : Nat} {b : Bytes} (h : XAt w (some ⟨g, o, none⟩) c b) (n : Nat) (hn : n ≤ b.length) : XAt w (some ⟨g, o + n, none⟩) (c - n) (b.drop n) := by
  have h1 := h.c
  have h2 := h.l
  refine ⟨?_, by rw [List.length_drop]; omega, by rw [List.length_drop]; omega⟩
  have hp := h.s.part n b.length hn (Nat.le_refl _)
  rw [List.take_of_length_le (by simp)] at hp
  rw [List.length_drop]
  exact hp
theorem XAt.drop0 {w : World} {A : Option Addr} {b : Bytes} (n : Nat) (hn : b.length ≤ n) : XAt w A 0 (b.drop n) := by
  rw [List.drop_eq_nil_of_le hn]
  exact ⟨SBy.nil _ _, Nat.le_refl _, by simp⟩
def UnOk (w : World) (o : Bytes) (e : Ending) (w' : World) : Prop := ∃ A' c' lit, e = .returned (.tuple #[.slice A' o.length c', .int .i64 lit, .int .i64 0]) ∧ FrB w w' (.slice A' o.length c') o
set_option maxRecDepth 100000 in
set_option maxHeartbeats 4000000 in
theorem runpack_ok (w : World) (A : Option Addr) (n c : Nat) (b : Bytes) (most : Nat) (o : Bytes) (hb : SBy w A n b) (hc : n ≤ c) (hn : n ≤ 2 ^ 30) (hm : most ≤ 2 ^ 20) (ho : unpackB most b = (o, 0)) :
    Calls Try.prog 25 #[.slice A n c, .int .i64 (most : Nat)] w (UnOk w o) := by
  have hl := hb.1
  cases b with
  | nil => cases ho
  | cons y b1 =>
    obtain ⟨g, q, rfl, hg, hcell⟩ := hb.2 (by rw [← hl]; simp)
    have hc0 := hcell 0 (by rw [← hl]; simp)
    have hx : at8 (y :: b1) 0 = y.toNat := by simp [at8]
    rw [hx, Nat.add_zero] at hc0
    have hx256 := UInt8.toNat_lt y
    have hnl : n = b1.length + 1 := hl.symm
    subst hnl
    have HX : Hid (XAt w (some ⟨g, q + 1, none⟩) (c - 1) b1) := by
      have h1 : XAt w (some ⟨g, q, none⟩) c (y :: b1) := ⟨hb, hc, by simp; omega⟩
      exact h1.drop 1 (by simp)
    have i0 : ((0 : Nat) : Int) ≤ (most : Int) := by omega
    simp only [unpackB] at ho
    by_cases hy0 : y.toNat = 0
    · rw [if_pos hy0] at ho
      rw [hy0] at hc0
      by_cases hmb : most < b1.length
      · rw [if_pos hmb] at ho; cases ho
      · rw [if_neg hmb] at ho
        injection ho with ho
        subst ho
        have i1 : ¬ (b1.length : Int) > (most : Int) := by omega
        have i2 : (1 : Int) ≤ (c : Int) := by omega
        clear hb hcell hx hl hy0 hx256
        by_cases hc1 : c = 1
        · have hb0 : b1 = [] := by
            have : b1.length = 0 := by omega
            simpa using this
          subst hb0 hc1
          go_enter Try.func25, Try.ntmps25
          go_wp2_with (at_builtin; go_must (refine wpList_appF rfl (.tmp 36) (.tmp 38) rfl w (.slice (some ⟨w.heap.size, 0, none⟩) 0 0) [] [] rfl (FrB.lit w) (some ⟨g, q, none⟩) 0 0 rfl (SBy.nil _ _) (by simp) 0 (by simp) ?_); intro A' c' w1 h1 hg)
          have H1 := Lib.hid h1
          clear h1 hg
          go_wp2
          refine bodyPost_ret (results_tmp3 rfl _ _ _) rfl ?_
          exact ⟨_, _, _, rfl, by simpa using H1.out⟩
        · have hc2 : ¬ c = 1 := hc1
          go_enter Try.func25, Try.ntmps25
          go_wp2_with (at_builtin; go_must (refine wpList_appF rfl (.tmp 36) (.tmp 38) rfl w (.slice (some ⟨w.heap.size, 0, none⟩) 0 0) [] b1 rfl (FrB.lit w) (some ⟨g, q + 1, none⟩) b1.length (c - 1) rfl (HX.out.s.alloc _) (by simp; omega) b1.length (by simp) ?_); intro A' c' w1 h1 hg)
          have H1 := Lib.hid h1
          clear h1 hg
          go_wp2
          refine bodyPost_ret (results_tmp3 rfl _ _ _) rfl ?_
          exact ⟨_, _, _, rfl, by simpa using H1.out⟩
    · rw [if_neg hy0] at ho
      by_cases hy1 : y.toNat = 1
      · rw [if_pos hy1] at ho
        by_cases ht : (toksB most [] b1).2 = 0
        · rw [if_pos ht] at ho
          injection ho with ho
          have HT : Hid (toksB most [] b1 = (o, 0)) := Prod.ext ho ht
          rw [hy1] at hc0
          have i2 : (1 : Int) ≤ (c : Int) := by omega
          clear hb hcell hx hl hy0 hx256 ho ht hy1
          by_cases hc1 : c = 1
          · have hb0 : b1 = [] := by
              have : b1.length = 0 := by omega
              simpa using this
            subst hb0 hc1
            have ho : o = [] := by have h := HT.out; rw [toksB_nil] at h; injection h with h; exact h.symm
            subst ho
            go_enter Try.func25, Try.ntmps25
            go_wp2
            go_loopw [7, 8, 9] (fun v7 v8 v9 wr => v7 = .slice none 0 0 ∧ v8 = .int .i64 0 ∧ wr = w ∧ ∃ A3 c3, v9 = .slice A3 0 c3) (fun _ _ v9 _ => 0)
            case atStart => exact ⟨rfl, rfl, rfl, _, _, rfl⟩
            case round =>
              obtain ⟨rfl, rfl, rfl, A3, c3, rfl⟩ := hrel
              go_wp2
              refine bodyPost_ret (results_tmp3 rfl _ _ _) rfl ?_
              exact ⟨_, _, _, rfl, FrB.empty _⟩
          · go_enter Try.func25, Try.ntmps25
            go_wp2
            go_loopw [7, 8, 9] (fun v7 v8 v9 wr => ∃ (out b' : Bytes) (A2 : Option Addr) (c2 : Nat) (A3 : Option Addr) (c3 : Nat) (lit : Int), v7 = .slice A2 out.length c2 ∧ v8 = .int .i64 lit ∧ v9 = .slice A3 b'.length c3 ∧ FrB w wr (.slice A2 out.length c2) out ∧ XAt w A3 c3 b' ∧ toksB most out b' = (o, 0) ∧ out.length ≤ most) (fun _ _ v9 _ => match v9 with | .slice _ k _ => k | _ => 0)
            case atStart => exact ⟨[], b1, none, 0, _, _, 0, rfl, rfl, rfl, FrB.empty w, HX.out, HT.out, Nat.zero_le _⟩
            case round =>
              obtain ⟨out, b', A2, c2, A3, c3, lit, rfl, rfl, rfl, hf, hx, ht, hol⟩ := hrel
              clear HX HT
              have HF := Lib.hid hf
              have HXX := Lib.hid hx
              by_cases hb0 : b' = []
              · subst hb0
                have ho : o = out := by rw [toksB_nil] at ht; injection ht with ht; exact ht.symm
                subst ho
                clear hf hx ht
                go_wp2
                refine bodyPost_ret (results_tmp3 rfl _ _ _) rfl ?_
                exact ⟨_, _, _, rfl, HF.out⟩
              · have hpos : 0 < b'.length := List.length_pos_iff.2 hb0
                have hte := toksB_step hb0 ht
                rw [toksB_ok hb0 hte] at ht
                have hls := tokB_less hte
                obtain ⟨t, k, hrd, hK0, hKq, hcase⟩ := tokB_cases hte
                have HRV := Lib.hid (rreadVar_any wr A3 b'.length c3 b' (hx.s.up hf.bel) (by have := hx.l; omega))
                have ht64 := rdVar_lt b'
                have htk := rdVar_took_any b' 0 0
                unfold RvPost at HRV
                rw [hrd] at HRV ht64 htk
                simp only at HRV ht64 htk
                have hxc := hx.c
                have hxl := hx.l
                obtain ⟨g3, o3, rfl, hg3, _⟩ := hx.s.2 hpos
                have hk : k < b'.length := by
                  rcases hcase with ⟨_, d, m, h1, _⟩ | ⟨_, h1, _⟩
                  · by_cases hk : k < b'.length
                    · exact hk
                    · rw [List.drop_eq_nil_of_le (by omega)] at h1
                      cases h1
                  · rw [List.length_drop] at h1
                    omega
                have hdl : (b'.drop k).length = b'.length - k := List.length_drop
                have HX1 := Lib.hid (hx.drop k (by omega))
                have HT := Lib.hid ht
                have HTE := Lib.hid hte
                have HLS := Lib.hid hls
                have HRD := Lib.hid hrd
                have HDL := Lib.hid hdl
                obtain ⟨K, hK⟩ : ∃ K, K = t / 2 := ⟨_, rfl⟩
                have k2 : (t : Int).tdiv 2 = (K : Int) := by rw [Int.tdiv_eq_ediv_of_nonneg (by omega)]; omega
                have k3 : (t : Int) / 2 = (K : Int) := by omega
                rw [← hK] at hK0 hKq hcase
                have k4 : ((K : Int) == 0) = false := beq_eq_false_iff_ne.2 (by omega)
                have k5 : ¬ c3 = k := by omega
                have k6 : (k : Int) ≤ (b'.length : Int) := by omega
                have k7 : (b'.length : Int) > 0 := by omega
                obtain ⟨m1, hm1⟩ : ∃ m1, m1 = most - out.length := ⟨_, rfl⟩
                have k8 : (most : Int) - (out.length : Int) = (m1 : Int) := by omega
                have k9 := w64_of (n := m1) (by omega)
                have k10 : ¬ (K : Int) > (m1 : Int) := by omega
                have k10' : IntKind.i64.wrap ((most : Int) - (out.length : Int)) = (m1 : Int) := by rw [k8]; exact IntWalk.i64_in _ (by omega)
                have HK := Lib.hid hK
                clear hf hx ht hte hls hrd hdl hK hm1
                go_wp2_with fail
                refine HRV.out.mono ?_
                rintro _ wr ⟨rfl, rfl⟩
                clear HRV
                rcases hcase with ⟨hodd, d, m, hrd2, hd0, hdl2, hte2⟩ | ⟨hev, hKl, hte2⟩
                · have k11 : (t : Int).tmod 2 = 1 := by rw [Int.tmod_eq_emod_of_nonneg (by omega)]; omega
                  have k12 : (t : Int) % 2 = 1 := by omega
                  have HRV2 := Lib.hid (rreadVar_any wr (some ⟨g3, o3 + k, none⟩) (b'.length - k) (c3 - k) (b'.drop k) (by have h := HX1.out.s; rw [HDL.out] at h; exact h.up HF.out.bel) (by omega))
                  have hm2 := rdVar_took_any (b'.drop k) 0 0
                  have hd64 := rdVar_lt (b'.drop k)
                  unfold RvPost at HRV2
                  rw [hrd2] at HRV2 hm2 hd64
                  simp only at HRV2 hm2 hd64
                  rw [HDL.out] at hm2
                  have HTE2 := Lib.hid hte2
                  have HRD2 := Lib.hid hrd2
                  have kd : ((d : Int) == 0) = false := beq_eq_false_iff_ne.2 (by omega)
                  have kl := w64_of (n := out.length) (by omega)
                  have kg : ¬ (d : Int) > (out.length : Int) := by omega
                  have km : (m : Int) ≤ ((b'.length - k : Nat) : Int) := by omega
                  clear hte2 hrd2
                  go_wp2_with fail
                  refine HRV2.out.mono ?_
                  rintro _ wr ⟨rfl, rfl⟩
                  clear HRV2
                  have HXA : Hid (c3 - k = m → XAt w (some ⟨g3, o3 + k, none⟩) 0 ((b'.drop k).drop m)) := fun e => XAt.drop0 m (by rw [HDL.out]; omega)
                  have HXB : Hid (XAt w (some ⟨g3, o3 + k + m, none⟩) (c3 - k - m) ((b'.drop k).drop m)) := HX1.out.drop m (by rw [HDL.out]; omega)
                  have HL2 : Hid (((b'.drop k).drop m).length = b'.length - k - m) := Lib.hid (by rw [List.length_drop, HDL.out])
                  go_wp2
                  all_goals
                    go_loopw [7, 17] (fun v7 i wq => ∃ (j A5 c5 : _), j ≤ K ∧ i = .int .u64 (j : Nat) ∧ v7 = .slice A5 (out.length + j) c5 ∧ FrB w wq (.slice A5 (out.length + j) c5) (copyB out d j)) (fun _ i _ => K - (intOf i).toNat)
                    case atStart => exact ⟨0, _, _, Nat.zero_le _, rfl, rfl, HF.out⟩
                    case round =>
                      obtain ⟨j, A5, c5, hj, rfl, rfl, hfj⟩ := hrel
                      have HFJ := Lib.hid hfj
                      by_cases hjK : j < K
                      · obtain ⟨M, hM⟩ : ∃ M, M = copyB out d j := ⟨_, rfl⟩
                        have hMl : M.length = out.length + j := by rw [hM, copyB_length]
                        have HM : Hid (copyB out d (j + 1) = M ++ [M.getD (M.length - d) 0]) := by rw [hM]; exact copyB_succ' _ _ _
                        rw [← hM] at hfj HFJ
                        have hpos2 : 0 < out.length + j := by omega
                        obtain ⟨g5, o5, rfl, hg5, hcell5⟩ := hfj.sby.2 hpos2
                        obtain ⟨p, hp⟩ : ∃ p, p = out.length + j - d := ⟨_, rfl⟩
                        have hcp := hcell5 p (by omega)
                        have hb8 := at8_lt M p
                        have hbp : b8 (at8 M p) = M.getD (M.length - d) 0 := by rw [b8_at8, hp, hMl]
                        have HBP := Lib.hid hbp
                        have HML := Lib.hid hMl
                        have q1 : IntKind.i64.wrap (d : Int) = (d : Int) := IntWalk.i64_in _ (by omega)
                        have q2 : IntKind.i64.wrap (((out.length + j : Nat) : Int) - (d : Int)) = (p : Int) := by rw [IntWalk.i64_in _ (by omega)]; omega
                        have q2' : (out.length : Int) + (j : Int) - (d : Int) = (p : Int) := by omega
                        have q3 : (p : Int) < ((out.length + j : Nat) : Int) := by omega
                        have q4 : (0 : Int) ≤ (p : Int) := by omega
                        have q5 : (j : Int) < (K : Int) := by omega
                        have q6 : IntKind.u64.wrap ((j : Int) + 1) = ((j + 1 : Nat) : Int) := by rw [show (j : Int) + 1 = ((j + 1 : Nat) : Int) by omega]; exact w64_of (by omega)
                        clear hfj hcell5 hM hMl hbp hp
                        go_wp2_with (at_builtin; go_must (refine wpList_appF rfl (.tmp 100) (.tmp 109) rfl w (.slice (some ⟨g5, o5, none⟩) (out.length + j) c5) M [b8 (at8 M p)] rfl (HFJ.out.alloc _) (some ⟨wr.heap.size, 0, none⟩) 1 1 rfl (SBy.one wr hb8 _) (by rw [HML.out]; omega) (out.length + (j + 1)) (by rw [HML.out]; omega) ?_); intro A6 c6 w6 h6 hg6)
                        rw [HBP.out, ← HM.out] at h6
                        have H6 := Lib.hid h6
                        clear h6 hg6 HFJ
                        go_wp2
                        go_roundw
                        case rel => exact ⟨j + 1, _, _, by omega, by go_num, rfl, H6.out⟩
                        case measure => simp [intOf]; omega
                      · obtain rfl : j = K := by omega
                        have q5 : ¬ (j : Int) < (j : Int) := by omega
                        clear hfj
                        go_wp2
                        refine ⟨⟨copyB out d j, (b'.drop k).drop m, A5, c5, _, _, _, by rw [copyB_length], rfl, by rw [HL2.out], by rw [copyB_length]; exact HFJ.out, by first | exact HXA.out (by assumption) | exact HXB.out, ?_, by rw [copyB_length]; omega⟩, ?_⟩
                        · have h := HT.out
                          rw [HTE2.out] at h
                          exact h
                        · show b'.length - k - m < b'.length
                          have := rdVar_took (b'.drop k) 0 0 (by rw [HRD2.out])
                          rw [HRD2.out] at this
                          simp only at this
                          omega
                · have k11 : (t : Int).tmod 2 = 0 := by rw [Int.tmod_eq_emod_of_nonneg (by omega)]; omega
                  have k12 : (t : Int) % 2 = 0 := by omega
                  rw [HDL.out] at hKl
                  have kl : IntKind.u64.wrap ((b'.length - k : Nat) : Int) = ((b'.length - k : Nat) : Int) := w64_of (by omega)
                  have kg : ¬ (K : Int) > ((b'.length - k : Nat) : Int) := by omega
                  have kK : IntKind.i64.wrap (K : Int) = (K : Int) := IntWalk.i64_in _ (by omega)
                  have kc : (K : Int) ≤ ((c3 - k : Nat) : Int) := by omega
                  have k0 : (0 : Int) ≤ (K : Int) := by omega
                  have HSK : Hid (SBy wr (some ⟨g3, o3 + k, none⟩) K ((b'.drop k).take K)) := by
                    have h := (HX1.out.s.up HF.out.bel).part 0 K (by omega) (by rw [HDL.out]; exact hKl)
                    rw [Nat.sub_zero, List.drop_zero, Nat.add_zero] at h
                    exact h
                  have HTE2 := Lib.hid hte2
                  clear hte2
                  go_wp2_with (at_builtin; go_must (refine wpList_appF rfl (.tmp 123) (.tmp 126) rfl w (.slice A2 out.length c2) out ((b'.drop k).take K) rfl HF.out (some ⟨g3, o3 + k, none⟩) K (c3 - k) rfl HSK.out (by omega) (out.length + K) rfl ?_); intro A4 c4 w4 h4 hg4)
                  have H4 := Lib.hid h4
                  clear h4 hg4 HF HSK
                  go_wp2
                  have hlo : (out ++ (b'.drop k).take K).length = out.length + K := by rw [List.length_append, List.length_take, HDL.out]; omega
                  have hld : ((b'.drop k).drop K).length = b'.length - k - K := by rw [List.length_drop, HDL.out]
                  refine ⟨⟨out ++ (b'.drop k).take K, (b'.drop k).drop K, A4, c4, _, _, _, by rw [hlo], rfl, by rw [hld], by rw [hlo]; exact H4.out, ?_, ?_, by rw [hlo]; omega⟩, ?_⟩
                  · split
                    · rename_i e
                      rw [show c3 - k - K = 0 by omega]
                      exact XAt.drop0 K (by rw [HDL.out]; omega)
                    · exact HX1.out.drop K (by rw [HDL.out]; omega)
                  · have h := HT.out
                    rw [HTE2.out] at h
                    exact h
                  · show b'.length - k - K < b'.length
                    omega
        · rw [if_neg ht] at ho
          injection ho with _ ho
          exact absurd ho ht
      · rw [if_neg hy1] at ho
        cases ho
end Go.Proofs.Ytlmgihnnphmmhaa
