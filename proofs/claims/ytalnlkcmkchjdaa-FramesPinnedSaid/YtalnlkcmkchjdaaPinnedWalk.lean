/- The walk of FramesPinned. -/
import Derived.Test.YtalnlkcmkchjdaaPP
import Derived.Test.YtalnlkcmkchjdaaTouchedWalk
namespace Go.Proofs.Ytalnlkcmkchjdaa
open Go.RowKit Go.Maps
set_option linter.unusedVariables false
set_option linter.unusedSimpArgs false

/-- The slice at A holds the m bools G. -/
def SBo (w : World) (A : Option Addr) (m : Nat) (G : Nat → Bool) : Prop :=
  0 < m → ∃ b o, A = some ⟨b, o, none⟩ ∧ b < w.heap.size ∧ ∀ k, k < m → w.cell? ⟨b, o + k, none⟩ = some (.bool (G k))
theorem SBo.at_ {w wr : World} {A : Option Addr} {m k : Nat} {G : Nat → Bool} (h : SBo w A m G) (hb : Below w.heap.size w wr) (hk : k < m) : ∃ b o, A = some ⟨b, o, none⟩ ∧ b < w.heap.size ∧ wr.cell? ⟨b, o + k, none⟩ = some (.bool (G k)) := by
  obtain ⟨b, o, rfl, hl, hc⟩ := h (by omega)
  exact ⟨b, o, rfl, hl, (hb.cell hl).trans (hc k hk)⟩

theorem frees_yes {q : Nat → Bool} {k : Nat} (h : q k = true) : frees q (k + 1) = frees q k := by simp [frees, h]
theorem frees_no {q : Nat → Bool} {k : Nat} (h : q k = false) : frees q (k + 1) = frees q k + 1 := by simp [frees, h]

set_option maxRecDepth 100000 in
set_option maxHeartbeats 8000000 in
theorem pinned_walk (w : World) (n : Int) (m c : Nat) (A : Option Addr) (G : Nat → Bool) (hm : m ≤ maxLen) (hA : SBo w A m G) (more : Int) :
    Calls Try.prog 4 #[.int .i64 n, .slice A m c, .int .i64 more] w fun e w' => e = .returned (.bool true) ∧ Below w.heap.size w w' := by
  unfold maxLen at hm
  have HA := Lib.hid hA
  clear hA
  by_cases good : 1 ≤ n ∧ n ≤ 40 ∧ 0 ≤ more ∧ more ≤ 200
  case neg =>
    have hbad : n < 1 ∨ 40 < n ∨ more < 0 ∨ 200 < more := by omega
    clear good
    go_enter Try.func4, Try.ntmps4
    go_wp2_with fail
    refine (known_any _).mono ?_
    rintro e w1 ⟨rfl, hb1⟩
    rcases hbad with h | h | h | h
    all_goals
      go_wp2_with fail
      all_goals
        go_ret
        exact ⟨rfl, hb1⟩
  case pos =>
    obtain ⟨h1, h2, h3, h4⟩ := good
    obtain ⟨n, rfl⟩ := Int.eq_ofNat_of_zero_le (show 0 ≤ n by omega)
    obtain ⟨more, rfl⟩ := Int.eq_ofNat_of_zero_le h3
    have h5 : 1 ≤ n := by omega
    have h6 : n ≤ 40 := by omega
    have h7 : more ≤ 200 := by omega
    obtain ⟨q, hq⟩ : ∃ q : Nat → Bool, q = fun j => decide (j < m) && G j := ⟨_, rfl⟩
    have HQ := Lib.hid hq
    clear hq
    go_enter Try.func4, Try.ntmps4
    go_wp2_with fail
    refine (known_any _).mono ?_
    rintro e w1 ⟨rfl, hb1⟩
    go_wp2_with fail
    refine (New_any w1 n (by omega) (by omega)).mono ?_
    rintro e w2 ⟨P, B, M, rfl, p2, hP, hB, hM, hb2⟩
    have hs1 := hb1.size
    have HB2 := Lib.hid (below_upto hb1 hb2 (Nat.le_refl _))
    have hP' : w.heap.size ≤ P := by omega
    have hB' : w.heap.size ≤ B := by omega
    have hM' : w.heap.size ≤ M := by omega
    have HP2 : Hid (PoolAt w2 P B M n (bF q 0) 0 (aG 0) 0) := p2.congr (fun i hi => by simp [bF]) rfl (fun k => by simp [aG])
    clear hb1 hb2 p2 hP hB hM hs1
    go_wp2_with fail
    go_loopw [9, 10] (fun v i wr => ∃ (k x : Nat), k ≤ n ∧ i = .int .i64 k ∧ v = .int .i64 x ∧ x = frees q k ∧ (∃ c, PoolAt wr P B M n (bF q k) 0 (aG k) c) ∧ Below w.heap.size w wr) (fun _ i _ => n - (intOf i).toNat)
    case atStart => exact ⟨0, 0, Nat.zero_le _, rfl, rfl, rfl, ⟨0, HP2.out⟩, HB2.out⟩
    case round =>
      obtain ⟨k, x, hk, rfl, rfl, hx, ⟨c0, p⟩, hb⟩ := hrel
      clear HP2 HB2
      have hxk : x ≤ k := by rw [hx]; exact frees_le q k
      have HX := Lib.hid hx
      clear hx
      by_cases hlt : k < n
      · have HS := Lib.hid (b_step (q := q) hlt)
        have HP := Lib.hid p
        have HB := Lib.hid hb
        clear p hb
        go_wp2_with fail
        refine (Take_any (key := (k : Int)) HP.out (wf_small (by omega) (by omega))).mono ?_
        rintro e w3 ⟨rfl, ⟨c3, p3⟩, o3⟩
        have p3' := p3.congr HS.out.F HS.out.h HS.out.g
        have HB3 := Lib.hid (below_off HB.out o3 hP' hB' hM')
        unfold TakeR.val Fr.val
        rw [HS.out.frame, HS.out.out, HS.out.given, HS.out.e]
        have HP3 := Lib.hid (p3'.up ((Below.refl _ _).alloc (Nat.le_refl _) (.cells #[.int .i64 0, .bool false, .bool false, .bool false, .int .i64 0] 28)))
        have HB4 := Lib.hid (HB3.out.alloc HB3.out.size (.cells #[.int .i64 0, .bool false, .bool false, .bool false, .int .i64 0] 28))
        have hs3 := HB3.out.size
        clear p3 p3' o3 HS HP HB
        unfold Fr.zero
        by_cases hkm : k < m
        · obtain ⟨b1, o1, e1, q1, d1⟩ := HA.out.at_ HB4.out hkm
          cases e1
          rw [World.cell?_alloc_lt _ _ _ (by show b1 < w3.heap.size; omega)] at d1
          have q3 : b1 < w3.heap.size := by omega
          have hkm' : decide (k < m) = true := by simp; omega
          cases hG : G k
          · have hqk : q k = false := by rw [HQ.out]; simp [hG]
            have HQK := Lib.hid hqk
            clear hqk
            go_wp2
            go_roundw
            case rel => exact ⟨k + 1, x + 1, by omega, by go_num, by go_num, by rw [frees_no HQK.out, ← HX.out], ⟨c3, HP3.out.congr (fun i _ => b_no HQK.out i) rfl (fun _ => rfl)⟩, HB4.out⟩
            case measure => simp [intOf]; omega
          · have hqk : q k = true := by rw [HQ.out]; simp [hG, hkm]
            have HQK := Lib.hid hqk
            clear hqk
            go_wp2_with fail
            refine (Pin_yes HP3.out k hlt (by simp [putF, Fr.new]) (by simp [putF, Fr.new]) (by simp [putF, Fr.new])).mono ?_
            rintro e w5 ⟨rfl, ⟨c5, p5⟩, o5⟩
            have HP5 := Lib.hid (p5.congr (fun i _ => b_yes HQK.out i) rfl (fun _ => rfl))
            have HB5 := Lib.hid (below_off HB4.out o5 hP' hB' hM')
            clear p5 o5 HP3 HB3 HB4 d1
            go_wp2
            go_roundw
            case rel => exact ⟨k + 1, x, by omega, by go_num, rfl, by rw [frees_yes HQK.out]; exact HX.out, ⟨c5, HP5.out⟩, HB5.out⟩
            case measure => simp [intOf]; omega
        · have hqk : q k = false := by rw [HQ.out]; simp [hkm]
          have HQK := Lib.hid hqk
          have hkm' : decide (k < m) = false := by simp; omega
          clear hqk
          go_wp2
          go_roundw
          case rel => exact ⟨k + 1, x + 1, by omega, by go_num, by go_num, by rw [frees_no HQK.out, ← HX.out], ⟨c3, HP3.out.congr (fun i _ => b_no HQK.out i) rfl (fun _ => rfl)⟩, HB4.out⟩
          case measure => simp [intOf]; omega
      · obtain rfl : n = k := by omega
        have HI : Hid (PinInv n q (bF q n) (aG n) 0) := b_inv h6
        have HP := Lib.hid p
        have HB := Lib.hid hb
        clear p hb
        go_wp2_with fail
        go_loopw [15] (fun v wr => ∃ i : Nat, i ≤ more ∧ v = .int .i64 i ∧ (∃ F h g c, PoolAt wr P B M n F h g c ∧ PinInv n q F g i) ∧ Below w.heap.size w wr) (fun v _ => more - (intOf v).toNat)
        case atStart => exact ⟨0, Nat.zero_le _, rfl, ⟨_, _, _, _, HP.out, HI.out⟩, HB.out⟩
        case round =>
          obtain ⟨i, him, rfl, ⟨F, h, g, c4, p4, hi⟩, hb4⟩ := hrel
          have HP4 := Lib.hid p4
          have HI4 := Lib.hid hi
          have HB4 := Lib.hid hb4
          clear p4 hi hb4 HP HI HB
          by_cases hlt2 : i < more
          · rcases Nat.lt_or_ge 0 x with hx0 | hx0
            · obtain ⟨j0, hj0, hq0⟩ := frees_pos (q := q) (k := n) (by rw [← HX.out]; exact hx0)
              obtain ⟨r, out, F', g', hr, hout, ht, hI'⟩ := pin_give HI4.out h6 HP4.out.hand hj0 hq0
              have HT := Lib.hid ht
              have HO := Lib.hid hout
              have HI' := Lib.hid hI'
              have hd : decide (0 < x) = true := by simp; omega
              clear ht hout hI' hq0
              go_wp2_with fail
              refine (Take_any (key := 1000 + (i : Int)) HP4.out (wf_small (by omega) (by omega))).mono ?_
              rintro e w6 ⟨rfl, ⟨c6, p6⟩, o6⟩
              have p6' := p6.congr HT.out.F HT.out.h HT.out.g
              have HB6 := Lib.hid (below_off HB4.out o6 hP' hB' hM')
              unfold TakeR.val Fr.val
              rw [HT.out.frame, HT.out.out, HT.out.given, HT.out.e, HO.out]
              have HP6 := Lib.hid (p6'.up ((Below.refl _ _).alloc (Nat.le_refl _) (.cells #[.int .i64 out.key, .bool out.used, .bool out.ref, .bool out.dirty, .int .i64 0] 28)))
              clear p6 p6' o6 HT HO HP4 HB4 HI4
              go_wp2
              go_roundw
              case rel => exact ⟨i + 1, by omega, by go_num, ⟨_, _, _, _, HP6.out, HI'.out⟩, HB6.out.alloc HB6.out.size _⟩
              case measure => simp [intOf]; omega
            · obtain ⟨ht, hI'⟩ := pin_full (h := h) HI4.out h6 (frees_zero (q := q) (k := n) (by rw [← HX.out]; omega))
              have HT := Lib.hid ht
              have HI' := Lib.hid hI'
              have hd : decide (0 < x) = false := by simp; omega
              clear ht hI'
              go_wp2_with fail
              refine (Take_any (key := 1000 + (i : Int)) HP4.out (wf_small (by omega) (by omega))).mono ?_
              rintro e w6 ⟨rfl, ⟨c6, p6⟩, o6⟩
              have p6' := p6.congr HT.out.F HT.out.h HT.out.g
              have HB6 := Lib.hid (below_off HB4.out o6 hP' hB' hM')
              unfold TakeR.val Fr.val
              rw [HT.out.frame, HT.out.out, HT.out.given, HT.out.e]
              have HP6 := Lib.hid (p6'.up ((Below.refl _ _).alloc (Nat.le_refl _) (.cells #[.int .i64 0, .bool false, .bool false, .bool false, .int .i64 0] 28)))
              unfold Fr.zero
              clear p6 p6' o6 HT HP4 HB4 HI4
              go_wp2
              go_roundw
              case rel => exact ⟨i + 1, by omega, by go_num, ⟨_, _, _, _, HP6.out, HI'.out⟩, HB6.out.alloc HB6.out.size _⟩
              case measure => simp [intOf]; omega
          · have hge : more ≤ i := by omega
            clear hlt2
            go_wp2_with fail
            go_loopw [20] (fun v wr => ∃ k : Nat, k ≤ n ∧ v = .int .i64 k ∧ PoolAt wr P B M n F h g c4 ∧ Below w.heap.size w wr) (fun v _ => n - (intOf v).toNat)
            case atStart => exact ⟨0, Nat.zero_le _, rfl, HP4.out, HB4.out⟩
            case round =>
              obtain ⟨k, hk, rfl, p5, hb5⟩ := hrel
              have HP5 := Lib.hid p5
              have HB5 := Lib.hid hb5
              clear p5 hb5 HP4 HB4
              by_cases hlt3 : k < n
              · by_cases hkm : k < m
                · obtain ⟨b1, o1, e1, q1, d1⟩ := HA.out.at_ HB5.out hkm
                  cases e1
                  have hkm' : decide (k < m) = true := by simp; omega
                  cases hG : G k
                  · go_wp2
                    go_roundw
                    case rel => exact ⟨k + 1, by omega, by go_num, HP5.out, HB5.out⟩
                    case measure => simp [intOf]; omega
                  · have hqk : q k = true := by rw [HQ.out]; simp [hG, hkm]
                    have HGK : Hid (g (k : Int) = some k) := by
                      have h8 := HI4.out.good.a k hlt3 (HI4.out.used k hlt3)
                      rw [(HI4.out.yes k hlt3 hqk).1] at h8
                      exact h8
                    have HFI := Lib.hid (Find_any (key := (k : Int)) HP5.out (wf_small (by omega) (by omega)))
                    clear hqk
                    go_wp2_with fail
                    refine HFI.out.mono ?_
                    rintro e w7 ⟨rfl, rfl⟩
                    unfold findV findI
                    rw [HGK.out]
                    simp only [Option.isSome_some]
                    go_wp2
                    go_roundw
                    case rel => exact ⟨k + 1, by omega, by go_num, HP5.out, HB5.out⟩
                    case measure => simp [intOf]; omega
                · have hkm' : decide (k < m) = false := by simp; omega
                  go_wp2
                  go_roundw
                  case rel => exact ⟨k + 1, by omega, by go_num, HP5.out, HB5.out⟩
                  case measure => simp [intOf]; omega
              · obtain ⟨u1, u2⟩ := inv_used HI4.out n (Nat.le_refl _)
                rw [← HX.out] at u2
                have HU1 := Lib.hid u1
                have HU2 : Hid (cntF qPinned F n = n - x) := by show _ = _; omega
                clear u1 u2
                go_wp2_with fail
                refine (Count_any HP5.out).mono ?_
                rintro e w8 ⟨rfl, hb8⟩
                rw [HU1.out, HU2.out, show ((n - x : Nat) : Int) = (n : Int) - (x : Int) by omega]
                have e1 : ((n : Int) == (n : Int)) = true := by simp
                go_wp2
                go_ret
                exact ⟨ret_bool (by simp), below_upto HB5.out hb8 (Nat.le_refl _)⟩
end Go.Proofs.Ytalnlkcmkchjdaa
