/- The walk of FramesTouched. -/
import Derived.Test.YtalnlkcmkchjdaaTP
namespace Go.Proofs.Ytalnlkcmkchjdaa
open Go.RowKit Go.Maps
set_option linter.unusedVariables false
set_option linter.unusedSimpArgs false

theorem wf_small {k : Int} (h0 : 0 ≤ k) (h1 : k ≤ 1000000) : (Lit.int .i64 k).wf = true := WalkArith.wf_i64 (by omega)

theorem uF_used (j : Nat) : (uF j).used = true := by
  unfold uF Fr.new
  split <;> simp
theorem t_find0 (n : Nat) : (tG n 0 n 0).isSome = false := by unfold tG; rw [if_neg (by omega), if_neg (by omega), if_neg (by omega)]; rfl
theorem t_find {n keep : Nat} (h0 : 0 < keep) (hk : keep < n) (h64 : n ≤ 64) : tG n keep n keep = some keep := by
  unfold tG
  rw [if_neg (by omega), if_pos (by omega), if_pos (.inl rfl)]
  simp

set_option maxRecDepth 100000 in
set_option maxHeartbeats 4000000 in
theorem touched_walk (n keep : Int) (w : World) :
    Calls Try.prog 3 #[.int .i64 n, .int .i64 keep] w fun e w' => e = .returned (.bool true) ∧ Below w.heap.size w w' := by
  by_cases good : 2 ≤ n ∧ n ≤ 64 ∧ 0 ≤ keep ∧ keep < n
  case neg =>
    have hbad : n < 2 ∨ 64 < n ∨ keep < 0 ∨ n ≤ keep := by omega
    clear good
    go_enter Try.func3, Try.ntmps3
    go_wp2_with fail
    refine (known_any _).mono ?_
    rintro e w1 ⟨rfl, hb1⟩
    rcases hbad with h | h | h | h
    all_goals
      go_wp2_with fail
      all_goals
        go_ret
        exact ⟨rfl, hb1⟩
  case pos =>
    obtain ⟨h1, h2, h3, h4⟩ := good
    obtain ⟨n, rfl⟩ := Int.eq_ofNat_of_zero_le (show 0 ≤ n by omega)
    obtain ⟨keep, rfl⟩ := Int.eq_ofNat_of_zero_le h3
    have h5 : 2 ≤ n := by omega
    have h6 : n ≤ 64 := by omega
    have h7 : keep < n := by omega
    go_enter Try.func3, Try.ntmps3
    go_wp2_with fail
    refine (known_any _).mono ?_
    rintro e w1 ⟨rfl, hb1⟩
    go_wp2_with fail
    refine (New_any w1 n (by omega) (by omega)).mono ?_
    rintro e w2 ⟨P, B, M, rfl, p2, hP, hB, hM, hb2⟩
    have hs1 := hb1.size
    have HB2 := Lib.hid (below_upto hb1 hb2 (Nat.le_refl _))
    have hP' : w.heap.size ≤ P := by omega
    have hB' : w.heap.size ≤ B := by omega
    have hM' : w.heap.size ≤ M := by omega
    have HP2 : Hid (PoolAt w2 P B M n (aF 0) 0 (aG 0) 0) := p2.congr (fun i hi => by simp [aF]) rfl (fun k => by simp [aG])
    clear hb1 hb2 p2 hP hB hM hs1
    go_wp2_with fail
    go_loopw [7] (fun i wr => ∃ k : Nat, k ≤ n ∧ i = .int .i64 k ∧ (∃ c, PoolAt wr P B M n (aF k) 0 (aG k) c) ∧ Below w.heap.size w wr) (fun i _ => n - (intOf i).toNat)
    case atStart => exact ⟨0, Nat.zero_le _, rfl, ⟨0, HP2.out⟩, HB2.out⟩
    case round =>
      obtain ⟨k, hk, rfl, ⟨c, p⟩, hb⟩ := hrel
      clear HP2 HB2
      by_cases hlt : k < n
      · have HA := Lib.hid (a_step hlt)
        have HP := Lib.hid p
        have HB := Lib.hid hb
        clear p hb
        go_wp2_with fail
        refine (Take_any (key := (k : Int)) HP.out (wf_small (by omega) (by omega))).mono ?_
        rintro e w3 ⟨rfl, ⟨c3, p3⟩, o3⟩
        have HP3 : Hid (PoolAt w3 P B M n (aF (k + 1)) 0 (aG (k + 1)) c3) := p3.congr HA.out.F HA.out.h HA.out.g
        have HB3 := Lib.hid (below_off HB.out o3 hP' hB' hM')
        clear p3 o3 HA
        go_wp2
        go_roundw
        case rel => exact ⟨k + 1, by omega, by go_num, ⟨c3, HP3.out⟩, HB3.out⟩
        case measure => simp [intOf]; omega
      · obtain rfl : n = k := by omega
        obtain ⟨out, hu⟩ := u_step h5 h6
        have HU := Lib.hid hu
        have HP := Lib.hid p
        have HB := Lib.hid hb
        clear p hb hu
        go_wp2_with fail
        refine (Take_any (key := 100) HP.out (by decide)).mono ?_
        rintro e w3 ⟨rfl, ⟨c3, p3⟩, o3⟩
        have p3' := p3.congr HU.out.F HU.out.h HU.out.g
        have HB3 := Lib.hid (below_off HB.out o3 hP' hB' hM')
        unfold TakeR.val Fr.val
        rw [HU.out.frame, HU.out.out, HU.out.given, HU.out.e]
        have HP3 := Lib.hid (p3'.up ((Below.refl _ _).alloc (Nat.le_refl _) (.cells #[.int .i64 out.key, .bool out.used, .bool out.ref, .bool out.dirty, .int .i64 out.pins] 28)))
        clear p3 p3' o3 HU
        have HF := Lib.hid (u_first h5 h7)
        rcases Nat.lt_or_ge 0 keep with hkp | hkp
        case' inl =>
          go_wp2_with fail
          refine (Touch_yes HP3.out keep false h7 (uF_used keep)).mono ?_
          rintro e w4 ⟨rfl, ⟨c4, p4⟩, o4⟩
          have HP4 : Hid (PoolAt w4 P B M n (tF keep 1) (tH n keep 1) (tG n keep 1) c4) := p4.congr (fun i hi => by have := HF.out.1 i hi; rw [if_pos hkp] at this; exact this) HF.out.2.1 HF.out.2.2
          have HB4 := Lib.hid (below_off (HB3.out.alloc HB3.out.size _) o4 hP' hB' hM')
          clear p4 o4 HF HP3 HB3
          go_wp2_with fail
        case' inr =>
          have hF0 : ∀ i, i < n → uF i = tF keep 1 i := fun i hi => by have := HF.out.1 i hi; rw [if_neg (by omega)] at this; exact this
          have HP4 := Lib.hid (HP3.out.congr hF0 HF.out.2.1 HF.out.2.2)
          have HB4 := Lib.hid (HB3.out.alloc HB3.out.size (.cells #[.int .i64 out.key, .bool out.used, .bool out.ref, .bool out.dirty, .int .i64 out.pins] 28))
          clear HF HP3 HB3 hF0
          go_wp2_with fail
        all_goals
          go_loopw [12] (fun v wr => ∃ i : Nat, 1 ≤ i ∧ i ≤ n ∧ v = .int .i64 i ∧ (∃ c, PoolAt wr P B M n (tF keep i) (tH n keep i) (tG n keep i) c) ∧ Below w.heap.size w wr) (fun v _ => n - (intOf v).toNat)
          case atStart => exact ⟨1, Nat.le_refl _, by omega, rfl, ⟨_, HP4.out⟩, HB4.out⟩
          case round =>
            obtain ⟨i, hi1, hin, rfl, ⟨c5, p5⟩, hb5⟩ := hrel
            have HP5 := Lib.hid p5
            have HB5 := Lib.hid hb5
            clear p5 hb5 HP4 HB4 HP HB
            by_cases hlt : i < n
            · by_cases hne : i = keep
              · subst hne
                have HS := Lib.hid (t_skip h7 (by omega))
                have heq : ((i : Int) == (i : Int)) = true := by simp
                go_wp2
                go_roundw
                case rel => exact ⟨i + 1, by omega, by omega, by go_num, ⟨c5, HP5.out.congr HS.out.1 HS.out.2.1 HS.out.2.2⟩, HB5.out⟩
                case measure => simp [intOf]; omega
              · have heq : ((i : Int) == (keep : Int)) = false := by simp; omega
                obtain ⟨out2, hok, ht⟩ := t_step h5 h6 h7 (by omega) hlt hne
                have HT := Lib.hid ht
                have HO := Lib.hid hok
                clear ht hok hne
                go_wp2_with fail
                refine (Take_any (key := 200 + (i : Int)) HP5.out (wf_small (by omega) (by omega))).mono ?_
                rintro e w6 ⟨rfl, ⟨c6, p6⟩, o6⟩
                have p6' := p6.congr HT.out.F HT.out.h HT.out.g
                have HB6 := Lib.hid (below_off HB5.out o6 hP' hB' hM')
                unfold TakeR.val Fr.val
                rw [HT.out.frame, HT.out.out, HT.out.given, HT.out.e, HO.out]
                have HP6 := Lib.hid (p6'.up ((Below.refl _ _).alloc (Nat.le_refl _) (.cells #[.int .i64 i, .bool out2.used, .bool out2.ref, .bool out2.dirty, .int .i64 out2.pins] 28)))
                clear p6 p6' o6 HT HO HP5 HB5
                go_wp2
                go_roundw
                case rel => exact ⟨i + 1, by omega, by omega, by go_num, ⟨c6, HP6.out⟩, HB6.out.alloc HB6.out.size _⟩
                case measure => simp [intOf]; omega
            · obtain rfl : n = i := by omega
              have HFI := Lib.hid (Find_any (key := (keep : Int)) HP5.out (wf_small (by omega) (by omega)))
              first
              | (have hk1 := t_find hkp h7 h6
                 have e1 : ((keep : Int) == 0) = false := by simp; omega
                 have e2 : decide (0 < keep) = true := by simp; omega
                 have HK := Lib.hid hk1
                 clear hk1
                 go_wp2_with fail
                 refine HFI.out.mono ?_
                 rintro e w7 ⟨rfl, rfl⟩
                 unfold findV findI
                 rw [HK.out]
                 simp only [Option.isSome_some]
                 go_wp2
                 go_ret
                 exact ⟨ret_bool (by simp), HB5.out⟩)
              | (obtain rfl : keep = 0 := by omega
                 have HK := Lib.hid (t_find0 n)
                 go_wp2_with fail
                 refine HFI.out.mono ?_
                 rintro e w7 ⟨rfl, rfl⟩
                 unfold findV
                 rw [show (tG n 0 n ((0 : Nat) : Int)).isSome = false from HK.out]
                 go_wp2
                 go_ret
                 exact ⟨rfl, HB5.out⟩)
end Go.Proofs.Ytalnlkcmkchjdaa
