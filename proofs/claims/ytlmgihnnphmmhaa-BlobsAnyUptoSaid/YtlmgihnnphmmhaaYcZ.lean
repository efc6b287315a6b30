/- Bits are turned: crc.Burst, and the reference's. -/
import Derived.Test.YtlmgihnnphmmhaaYbZ
import Derived.StillTailTactics
namespace Go.Proofs.Ytlmgihnnphmmhaa
open Go.RowKit
set_option linter.unusedVariables false
set_option linter.unusedSimpArgs false

/-- Bytes in a block of the call's own. -/
structure CutB (w1 wr : World) (G : Nat) (M : Bytes) : Prop where
  cl : ∀ k, k < M.length → wr.cell? ⟨G, k, none⟩ = some (.int .u8 (at8 M k : Nat))
  fz : ∀ k, wr.frozen? ⟨G, k, none⟩ = false
  off : Off (· = G) w1 wr
theorem FrB.cut {w0 w1 : World} {G c : Nat} {L : Bytes} (h : FrB w0 w1 (.slice (some ⟨G, 0, none⟩) L.length c) L) (hp : 0 < L.length) : CutB w1 w1 G L ∧ w0.heap.size ≤ G ∧ G < w1.heap.size := by
  have hlt := h.own.lt G rfl
  obtain ⟨b, o, e, hb, hc⟩ := h.sby.2 hp
  injection e with e
  injection e with e1 e2
  subst e1 e2
  refine ⟨⟨fun k hk => ?_, fun k => ?_, Off.refl _ _⟩, hlt⟩
  · have := hc k hk
    rwa [Nat.zero_add] at this
  · rcases h.own.2 with ⟨hn, _⟩ | ⟨g, cap, cur, hv, hbb, hgg, _⟩
    · cases hn
    · injection hv with hv
      injection hv with hv
      injection hv with hv
      subst hv
      exact frozen_of_row _ _ _ _ _ hgg
theorem CutB.step {w1 wr : World} {G : Nat} {M : Bytes} (h : CutB w1 wr G M) {j x : Nat} (hj : j / 8 < M.length) (hx : x = at8 M (j / 8) ^^^ 2 ^ (j % 8)) : CutB w1 (wr.setCell ⟨G, j / 8, none⟩ (.int .u8 (x : Nat))) G (flipB M j) := by
  have hlt := at8_lt M (j / 8)
  have hx2 : x < 256 := by rw [hx]; exact flip_lt _ _ hlt
  refine ⟨fun k hk => ?_, fun k => by rw [World.frozen?_setCell]; exact h.fz k, h.off.setCell (p := ⟨G, j / 8, none⟩) rfl _⟩
  rw [flipB_length] at hk
  have hf : at8 (flipB M j) k = if k = j / 8 then x else at8 M k := by
    unfold flipB
    rw [← hx]
    unfold at8
    rw [List.getD_eq_getElem?_getD, List.getD_eq_getElem?_getD, List.getElem?_set]
    by_cases hk2 : j / 8 = k
    · rw [if_pos hk2, if_pos hk2.symm, hk2, if_pos hk]
      exact b8_lt hx2
    · rw [if_neg hk2, if_neg (fun e => hk2 e.symm)]
  rw [hf]
  by_cases hk2 : k = j / 8
  · subst hk2
    rw [if_pos rfl]
    exact World.cell?_setCell_same _ _ _ (h.cl _ hj)
  · rw [if_neg hk2, World.cell?_setCell_other _ _ _ _ (fun e => hk2 (by injection e with e1 e2; exact e2.symm))]
    exact h.cl k hk
theorem CutB.sby {w1 wr : World} {G : Nat} {M : Bytes} (h : CutB w1 wr G M) (hG : G < w1.heap.size) : SBy wr (some ⟨G, 0, none⟩) M.length M :=
  ⟨rfl, fun _ => ⟨G, 0, rfl, Nat.lt_of_lt_of_le hG h.off.size, fun k hk => by rw [Nat.zero_add]; exact h.cl k hk⟩⟩
/-- What Burst answers. -/
def BuPost (w : World) (n : Nat) (M : Bytes) (e : Ending) (w' : World) : Prop := ∃ G c', e = .returned (.slice (some ⟨G, 0, none⟩) n c') ∧ SBy w' (some ⟨G, 0, none⟩) n M ∧ n ≤ c' ∧ w.heap.size ≤ G ∧ Below w.heap.size w w'
theorem bit_step {p i : Nat} (hp : p < 4294967296) : bits .and .u32 ((p / 2 ^ i : Nat) : Int) 1 = ((p / 2 ^ i % 2 : Nat) : Int) := and1 _ (Nat.lt_of_le_of_lt (Nat.div_le_self _ _) hp)
theorem and7 (j : Nat) (h : j < 9223372036854775808) : bits .and .i64 (j : Int) 7 = ((j % 8 : Nat) : Int) := by
  have h1 := (bits_nat .i64 63 (by decide) (fun n h0 h1 => IntWalk.i64_in _ (by have : (2 : Int) ^ 63 = 9223372036854775808 := (by decide); omega)) j 7 (by omega) (by omega)).1
  rw [show ((7 : Nat) : Int) = 7 by rfl] at h1
  rw [h1]
  congr 1
  exact Nat.and_two_pow_sub_one_eq_mod j 3
set_option maxRecDepth 100000 in
set_option maxHeartbeats 2000000 in
theorem burst_any (w : World) (A : Option Addr) (n c : Nat) (L : Bytes) (hL : SBy w A n L) (hn : 0 < n ∧ n ≤ 65536) {bit : Int} (hbit : -9223372036854775808 ≤ bit ∧ bit ≤ 9223372036854775807) {pat : Nat} (hp : pat < 4294967296) :
    Calls Try.prog 71 #[.slice A n c, .int .i64 bit, .int .u32 (pat : Nat)] w (BuPost w n (burstB L bit pat)) := by
  have hl := hL.1
  have HC := Lib.hid (clone_any w A n c L hL (by omega))
  clear hL
  go_enter Try.func71, Try.ntmps71
  go_wp2_with fail
  refine HC.out.mono ?_
  rintro _ w1 ⟨A', c', rfl, hf, hA⟩
  obtain ⟨G, rfl⟩ := hA hn.1
  rw [← hl] at hf
  obtain ⟨hcut, hG1, hG2⟩ := hf.cut (by omega)
  have hcap := hf.cap
  have hbel := hf.bel
  have HCU := Lib.hid hcut
  have HBE := Lib.hid hbel
  rw [hl] at hcap
  clear hf hA HC hcut hbel
  by_cases hneg : bit < 0
  · have hB : Hid (burstB L bit pat = L) := by unfold burstB; rw [if_neg (by omega)]; exact rfl
    go_wp2
    go_ret
    refine ⟨G, c', rfl, ?_, hcap, hG1, HBE.out⟩
    rw [hB.out, ← hl]
    exact HCU.out.sby hG2
  · obtain ⟨b, rfl⟩ := Int.eq_ofNat_of_zero_le (show 0 ≤ bit by omega)
    have hB : Hid (burstB L (b : Nat) pat = burstGo L b pat 32) := by unfold burstB; rw [if_pos (by omega)]; exact rfl
    have hneg' : ¬ (b : Int) < 0 := by omega
    clear hneg
    go_wp2_with fail
    go_loopw [14] (fun i wr => ∃ k : Nat, k ≤ 32 ∧ i = .int .i64 (k : Nat) ∧ CutB w1 wr G (burstGo L b pat k)) (fun i _ => 32 - (intOf i).toNat)
    case atStart => exact ⟨0, by omega, rfl, HCU.out⟩
    case round =>
      obtain ⟨k, hk, rfl, hcu⟩ := hrel
      have HCK := Lib.hid hcu
      clear hcu HCU
      have hbelk : Hid (Below w.heap.size w wr) := HBE.out.trans (HCK.out.off.below (fun g hg => by rw [hg]; exact hG1) (HBE.out.size))
      have hlk : (burstGo L b pat k).length = n := by rw [burstGo_length, hl]
      by_cases hk32 : k < 32
      · have i1 : (k : Int) < 32 := by omega
        by_cases hlast : 8 * n ≤ b + k
        · have i2 : (b : Int) > 8 * (n : Int) - 1 - (k : Int) := by omega
          have hE : Hid (burstGo L b pat 32 = burstGo L b pat k) := by
            have := burstGo_end (L := L) (bit := b) (pat := pat) (32 - k) k (by omega)
            rw [show k + (32 - k) = 32 by omega] at this
            exact this
          have hfin : SBy wr (some ⟨G, 0, none⟩) n (burstGo L b pat k) := by have h := HCK.out.sby hG2; rw [hlk] at h; exact h
          have HFI := Lib.hid hfin
          clear hfin
          go_wp2
          go_ret
          refine ⟨G, c', rfl, ?_, hcap, hG1, hbelk.out⟩
          rw [hB.out, hE.out]
          exact HFI.out
        · have i2 : ¬ (b : Int) > 8 * (n : Int) - 1 - (k : Int) := by omega
          obtain ⟨q, hq⟩ : ∃ q, q = pat / 2 ^ k := ⟨_, rfl⟩
          have q1 : (pat : Int) / 2 ^ k = (q : Int) := by rw [hq]; simp
          have q2 : bits .and .u32 (q : Int) 1 = ((q % 2 : Nat) : Int) := by rw [hq]; exact bit_step hp
          rcases Nat.mod_two_eq_zero_or_one q with h0 | h0
          · rw [h0] at q2
            have hNO : Hid (burstGo L b pat (k + 1) = burstGo L b pat k) := Lib.hid (burstGo_no (by rw [← hq]; omega))
            clear hq h0
            go_wp2
            go_roundw
            case rel => exact ⟨k + 1, by omega, by go_num, by rw [hNO.out]; exact HCK.out⟩
            case measure => simp [intOf]; omega
          · rw [h0] at q2
            have hYES : Hid (burstGo L b pat (k + 1) = flipB (burstGo L b pat k) (b + k)) := Lib.hid (burstGo_yes (by rw [hl]; omega) (by rw [← hq]; exact h0))
            obtain ⟨j, hj⟩ : ∃ j, j = b + k := ⟨_, rfl⟩
            rw [← hj] at hYES
            have e1 : IntKind.i64.wrap ((b : Int) + (k : Int)) = (j : Int) := by rw [IntWalk.i64_in _ (by omega)]; omega
            obtain ⟨p8, hp8⟩ : ∃ p8, p8 = j / 8 := ⟨_, rfl⟩
            obtain ⟨r8, hr8⟩ : ∃ r8, r8 = j % 8 := ⟨_, rfl⟩
            obtain ⟨t8, ht8⟩ : ∃ t8, t8 = 2 ^ r8 := ⟨_, rfl⟩
            have e2 : IntKind.i64.wrap ((b : Int) + (k : Int)) / 8 = (p8 : Int) := by rw [e1]; omega
            have e3 : bits .and .i64 (IntKind.i64.wrap ((b : Int) + (k : Int))) 7 = (r8 : Int) := by rw [e1, hr8]; exact and7 j (by omega)
            have hm8 : r8 < 8 := by rw [hr8]; exact Nat.mod_lt _ (by omega)
            have hpw : t8 < 256 := by rw [ht8]; exact Nat.pow_lt_pow_right (n := 8) (by omega) hm8
            have e4 : IntKind.u8.wrap (2 ^ r8) = (t8 : Int) := by rw [show (2 : Int) ^ r8 = ((2 ^ r8 : Nat) : Int) by simp, ← ht8]; exact w8_of hpw
            have hj8 : p8 < n := by omega
            have cl := HCK.out.cl p8 (by rw [hlk]; exact hj8)
            have fz := HCK.out.fz p8
            have hxl := at8_lt (burstGo L b pat k) p8
            obtain ⟨x, hx⟩ : ∃ x, x = at8 (burstGo L b pat k) p8 := ⟨_, rfl⟩
            have HST : Hid (∀ y, y = x ^^^ t8 → ∀ wq, Below (wr.setCell ⟨G, p8, none⟩ (.int .u8 (y : Nat))).heap.size (wr.setCell ⟨G, p8, none⟩ (.int .u8 (y : Nat))) wq → CutB w1 wq G (burstGo L b pat (k + 1))) := fun y hy wq hwq => by
              have h := HCK.out.step (j := j) (x := y) (by rw [hlk, ← hp8]; exact hj8) (by rw [hy, hx, ht8, hr8, hp8])
              rw [← hp8] at h
              rw [hYES.out]
              have hg : G < (wr.setCell ⟨G, p8, none⟩ (.int .u8 (y : Nat))).heap.size := Nat.lt_of_lt_of_le hG2 h.off.size
              exact ⟨fun k hk => (hwq.cell (p := ⟨G, k, none⟩) hg).trans (h.cl k hk), fun k => (hwq.frozen (p := ⟨G, k, none⟩) hg).trans (h.fz k), h.off.step hwq⟩
            rw [← hx] at cl hxl
            have e5 := xor8 (a := x) (b := t8) hxl hpw
            obtain ⟨y, hy⟩ : ∃ y, y = x ^^^ t8 := ⟨_, rfl⟩
            rw [← hy] at e5
            have HST2 := Lib.hid (HST.out y hy)
            have i5 : (p8 : Int) < (n : Int) := by omega
            have i6 : (0 : Int) ≤ (p8 : Int) := by omega
            have i7 : (0 : Int) ≤ (r8 : Int) := by omega
            clear hq h0 hx hy HST hYES hj e1 hp8 hr8 ht8
            go_upto_region 9 with (fail)
            go_still_tail 14, (by kernel_rfl)
            go_wp2
            go_roundw
            case rel => exact ⟨k + 1, by omega, by go_num, HST2.out _ ((Below.refl _ _).drew)⟩
            case measure => simp [intOf]; omega
      · obtain rfl : k = 32 := by omega
        have i1 : ¬ ((32 : Nat) : Int) < 32 := by omega
        have hfin : SBy wr (some ⟨G, 0, none⟩) n (burstGo L b pat 32) := by have h := HCK.out.sby hG2; rw [hlk] at h; exact h
        have HFI := Lib.hid hfin
        clear hfin
        go_wp2
        go_ret
        refine ⟨G, c', rfl, ?_, hcap, hG1, hbelk.out⟩
        rw [hB.out]
        exact HFI.out
set_option maxRecDepth 100000 in
set_option maxHeartbeats 2000000 in
theorem rburst_any (w : World) (A : Option Addr) (n c : Nat) (L : Bytes) (hL : SBy w A n L) (hn : 0 < n ∧ n ≤ 65536) {bit : Int} (hbit : -9223372036854775808 ≤ bit ∧ bit ≤ 9223372036854775807) {pat : Nat} (hp : pat < 4294967296) :
    Calls Try.prog 39 #[.slice A n c, .int .i64 bit, .int .u32 (pat : Nat)] w (BuPost w n (burstB L bit pat)) := by
  have hl := hL.1
  have HL := Lib.hid hL
  clear hL
  go_enter Try.func39, Try.ntmps39
  go_upto_region 2 with (at_builtin; go_must (refine wpList_appF rfl (.tmp 9) (.tmp 10) rfl w (.slice (some ⟨w.heap.size, 0, none⟩) 0 0) [] L rfl (FrB.lit w) A n c rfl (HL.out.alloc _) (by simp; omega) n (by simp) ?_); intro A' c' w1 hf hg)
  rw [List.nil_append] at hf
  obtain ⟨G, o, rfl, hG2, _⟩ := hf.sby.2 hn.1
  have ho : o = 0 := by
    rcases hf.own.2 with ⟨hx, _⟩ | ⟨g, cap, cur, hv, _⟩
    · cases hx
    · injection hv with hv
      injection hv with hv
      injection hv with h1 h2
  subst ho
  have hcap := hf.cap
  have hf2 := hf
  rw [← hl] at hf2
  obtain ⟨hcut, hG1, hG2⟩ := hf2.cut (by omega)
  have HCU := Lib.hid hcut
  have HBE := Lib.hid hf.bel
  clear hf hf2 hg hcut HL
  by_cases hneg : bit < 0
  · have hB : Hid (burstB L bit pat = L) := by unfold burstB; rw [if_neg (by omega)]; exact rfl
    go_wp2
    go_ret
    refine ⟨G, c', rfl, ?_, hcap, hG1, HBE.out⟩
    rw [hB.out, ← hl]
    exact HCU.out.sby hG2
  · obtain ⟨b, rfl⟩ := Int.eq_ofNat_of_zero_le (show 0 ≤ bit by omega)
    have hB : Hid (burstB L (b : Nat) pat = burstGo L b pat 32) := by unfold burstB; rw [if_pos (by omega)]; exact rfl
    have hneg' : ¬ (b : Int) < 0 := by omega
    clear hneg
    by_cases hout : 8 * n ≤ b
    · have i0 : (b : Int) ≥ 8 * (n : Int) := by omega
      have hE : Hid (burstGo L b pat 32 = L) := Lib.hid (by
        have := burstGo_end (L := L) (bit := b) (pat := pat) 32 0 (by omega)
        rw [Nat.zero_add] at this
        exact this)
      go_wp2
      go_ret
      refine ⟨G, c', rfl, ?_, hcap, hG1, HBE.out⟩
      rw [hB.out, hE.out, ← hl]
      exact HCU.out.sby hG2
    · have i0 : ¬ (b : Int) ≥ 8 * (n : Int) := by omega
      go_wp2_with fail
      go_loopw [8] (fun i wr => ∃ k : Nat, k ≤ 32 ∧ i = .int .i64 (k : Nat) ∧ CutB w1 wr G (burstGo L b pat k)) (fun i _ => 32 - (intOf i).toNat)
      case atStart => exact ⟨0, by omega, rfl, HCU.out⟩
      case round =>
        obtain ⟨k, hk, rfl, hcu⟩ := hrel
        have HCK := Lib.hid hcu
        clear hcu HCU
        have hbelk : Hid (Below w.heap.size w wr) := HBE.out.trans (HCK.out.off.below (fun g hg => by rw [hg]; exact hG1) (HBE.out.size))
        have hlk : (burstGo L b pat k).length = n := by rw [burstGo_length, hl]
        have HLK := Lib.hid hlk
        have HFI : Hid (burstGo L b pat 32 = burstGo L b pat k → SBy wr (some ⟨G, 0, none⟩) n (burstGo L b pat 32)) := fun e => by
          have h := HCK.out.sby hG2
          rw [hlk] at h
          rw [e]
          exact h
        clear hlk
        have e1 : IntKind.i64.wrap ((b : Int) + (k : Int)) = ((b + k : Nat) : Int) := by rw [IntWalk.i64_in _ (by omega)]; omega
        have hE0 : Hid ((32 ≤ k ∨ 8 * n ≤ b + k) → burstGo L b pat 32 = burstGo L b pat k) := fun h => by
          rcases h with h | h
          · rw [show k = 32 by omega]
          · have := burstGo_end (L := L) (bit := b) (pat := pat) (32 - k) k (by omega)
            rw [show k + (32 - k) = 32 by omega] at this
            exact this
        by_cases hk32 : k < 32
        · have i1 : (k : Int) < 32 := by omega
          by_cases hlast : 8 * n ≤ b + k
          · have i2 : ¬ (IntKind.i64.wrap ((b : Int) + (k : Int)) < 8 * (n : Int)) := by rw [e1]; omega
            have HF2 := Lib.hid (HFI.out (hE0.out (.inr hlast)))
            clear e1 hE0 HFI
            go_wp2
            go_ret
            refine ⟨G, c', rfl, ?_, hcap, hG1, hbelk.out⟩
            rw [hB.out]
            exact HF2.out
          · have i2 : IntKind.i64.wrap ((b : Int) + (k : Int)) < 8 * (n : Int) := by rw [e1]; omega
            obtain ⟨q, hq⟩ : ∃ q, q = pat / 2 ^ k := ⟨_, rfl⟩
            have q1 : (pat : Int) / 2 ^ k = (q : Int) := by rw [hq]; simp
            have q2 : bits .and .u32 (q : Int) 1 = ((q % 2 : Nat) : Int) := by rw [hq]; exact bit_step hp
            have q3 := w64_of (n := k) (by omega)
            rcases Nat.mod_two_eq_zero_or_one q with h0 | h0
            · rw [h0] at q2
              have hNO : Hid (burstGo L b pat (k + 1) = burstGo L b pat k) := Lib.hid (burstGo_no (by rw [← hq]; omega))
              clear hq h0 e1 hE0 HFI
              go_wp2
              go_roundw
              case rel => exact ⟨k + 1, by omega, by go_num, by rw [hNO.out]; exact HCK.out⟩
              case measure => simp [intOf]; omega
            · rw [h0] at q2
              have hYES : Hid (burstGo L b pat (k + 1) = flipB (burstGo L b pat k) (b + k)) := Lib.hid (burstGo_yes (by rw [hl]; omega) (by rw [← hq]; exact h0))
              obtain ⟨j, hj⟩ : ∃ j, j = b + k := ⟨_, rfl⟩
              rw [← hj] at hYES e1
              obtain ⟨p8, hp8⟩ : ∃ p8, p8 = j / 8 := ⟨_, rfl⟩
              obtain ⟨r8, hr8⟩ : ∃ r8, r8 = j % 8 := ⟨_, rfl⟩
              obtain ⟨t8, ht8⟩ : ∃ t8, t8 = 2 ^ r8 := ⟨_, rfl⟩
              have e2 : (IntKind.i64.wrap ((b : Int) + (k : Int))).tdiv 8 = (p8 : Int) := by rw [e1, Int.tdiv_eq_ediv_of_nonneg (by omega)]; omega
              have e2' : IntKind.i64.wrap ((b : Int) + (k : Int)) / 8 = (p8 : Int) := by rw [e1]; omega
              have e3 : (IntKind.i64.wrap ((b : Int) + (k : Int))).tmod 8 = (r8 : Int) := by rw [e1, Int.tmod_eq_emod_of_nonneg (by omega)]; omega
              have e3' : IntKind.i64.wrap ((b : Int) + (k : Int)) % 8 = (r8 : Int) := by rw [e1]; omega
              have f2 : ((b : Int) + (k : Int)) / 8 = (p8 : Int) := by omega
              have f3 : ((b : Int) + (k : Int)) % 8 = (r8 : Int) := by omega
              have f2' : ((b : Int) + (k : Int)).tdiv 8 = (p8 : Int) := by rw [Int.tdiv_eq_ediv_of_nonneg (by omega)]; omega
              have f3' : ((b : Int) + (k : Int)).tmod 8 = (r8 : Int) := by rw [Int.tmod_eq_emod_of_nonneg (by omega)]; omega
              have hm8 : r8 < 8 := by rw [hr8]; exact Nat.mod_lt _ (by omega)
              have e6 := w64_of (n := r8) (by omega)
              have hpw : t8 < 256 := by rw [ht8]; exact Nat.pow_lt_pow_right (n := 8) (by omega) hm8
              have e4 : IntKind.u8.wrap (2 ^ r8) = (t8 : Int) := by rw [show (2 : Int) ^ r8 = ((2 ^ r8 : Nat) : Int) by simp, ← ht8]; exact w8_of hpw
              have hj8 : p8 < n := by omega
              have cl := HCK.out.cl p8 (by rw [HLK.out]; exact hj8)
              have fz := HCK.out.fz p8
              have hxl := at8_lt (burstGo L b pat k) p8
              obtain ⟨x, hx⟩ : ∃ x, x = at8 (burstGo L b pat k) p8 := ⟨_, rfl⟩
              have HST : Hid (∀ y, y = x ^^^ t8 → CutB w1 (wr.setCell ⟨G, p8, none⟩ (.int .u8 (y : Nat))) G (burstGo L b pat (k + 1))) := fun y hy => by
                have h := HCK.out.step (j := j) (x := y) (by rw [HLK.out, ← hp8]; exact hj8) (by rw [hy, hx, ht8, hr8, hp8])
                rw [← hp8] at h
                rw [hYES.out]
                exact h
              rw [← hx] at cl hxl
              have e5 := xor8 (a := x) (b := t8) hxl hpw
              obtain ⟨y, hy⟩ : ∃ y, y = x ^^^ t8 := ⟨_, rfl⟩
              rw [← hy] at e5
              have HST2 := Lib.hid (HST.out y hy)
              have i5 : (p8 : Int) < (n : Int) := by omega
              have i6 : (0 : Int) ≤ (p8 : Int) := by omega
              have i7 : (0 : Int) ≤ (r8 : Int) := by omega
              clear hq h0 hx hy HST hYES hj e1 hp8 hr8 ht8 hE0 HFI
              go_wp2
              go_roundw
              case rel => exact ⟨k + 1, by omega, by go_num, HST2.out⟩
              case measure => simp [intOf]; omega
        · have i1 : ¬ (k : Int) < 32 := by omega
          have HF2 := Lib.hid (HFI.out (hE0.out (.inl (by omega))))
          clear e1 hE0 HFI
          go_wp2
          go_ret
          refine ⟨G, c', rfl, ?_, hcap, hG1, hbelk.out⟩
          rw [hB.out]
          exact HF2.out
end Go.Proofs.Ytlmgihnnphmmhaa
