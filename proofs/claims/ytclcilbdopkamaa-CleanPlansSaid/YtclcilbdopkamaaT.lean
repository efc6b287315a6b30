/- The walks of the document's Victim, Plan, Gain, Worth, and of clean.Worth. -/
import Derived.Test.YtclcilbdopkamaaS
namespace Go.Proofs.Ytclcilbdopkamaa
open Go.RowKit
set_option linter.unusedVariables false
set_option linter.unusedSimpArgs false

set_option maxHeartbeats 1000000 in
theorem rVictim_any (n c : Nat) (A : Option Addr) (L : Nat → Ld) (w : World) (hn : n ≤ 281474976710656) (hA : SL w A n L) :
    Calls Try.prog 13 #[.slice A n c] w fun e w' => e = .returned (victimV L n) ∧ Below w.heap.size w w' := by
  have HM := Lib.hid (run_make_bools n hn)
  have HA := Lib.hid hA
  have hbd := bestTo_bd L (fun _ => false) n
  generalize hv : bestTo L (fun _ => false) n = v at hbd
  obtain ⟨hv0, hv1⟩ := hbd
  have HV := Lib.hid hv
  clear hA hv
  by_cases hneg : v < 0
  · have hmk := HM.out
    go_enter Try.func13, Try.ntmps13
    go_wp2_with fail
    refine (best_any n c n _ _ L (fun _ => false) _ (by unfold maxLen; omega) (HA.out.up (((Below.refl _ _).alloc (Nat.le_refl _) _).alloc (by simp) _)) ?_).mono ?_
    · exact SB_made _ _ _ _ (by simp)
    rintro e w1 ⟨rfl, hb1⟩
    rw [HV.out]
    have Hb1 := Lib.hid hb1
    obtain ⟨hc1, hf1⟩ := bcell hb1
    simp only [World.size_alloc] at hc1 hf1
    have k0 := hc1 w.heap.size 0 (by omega)
    have k1 := hc1 w.heap.size 1 (by omega)
    have k2 := hc1 w.heap.size 2 (by omega)
    have k3 := hc1 w.heap.size 3 (by omega)
    simp [go_sem] at k0 k1 k2 k3
    clear hb1
    go_wp2
    refine bodyPost_ret (v := .tuple #[.agg #[.int .i64 0, .int .i64 0, .int .i64 0, .bool false], .bool false]) (by simp [results, Try.results13, go_sem, k0, k1, k2, k3]) rfl ⟨by unfold victimV; rw [HV.out, if_pos hneg], ?_⟩
    have h2 := below_upto ((Below.refl w.heap.size w).alloc (Nat.le_refl _) _) (below_upto ((Below.refl _ _).alloc (Nat.le_refl _) _) Hb1.out (Nat.le_refl _)) (Nat.le_refl _)
    exact (((h2.setCell (Nat.le_refl _) _).setCell (Nat.le_refl _) _).setCell (Nat.le_refl _) _).setCell (Nat.le_refl _) _
  · obtain ⟨j, rfl⟩ := Int.eq_ofNat_of_zero_le (Int.not_lt.1 hneg)
    have hmk := HM.out
    obtain ⟨b, o, rfl, hbl, hcl⟩ := HA.out (by omega)
    have hcj := hcl j (by omega)
    obtain ⟨c0, c1, c2, c3⟩ := hcj
    clear hcl
    go_enter Try.func13, Try.ntmps13
    go_wp2_with fail
    refine (best_any n c n _ _ L (fun _ => false) _ (by unfold maxLen; omega) (HA.out.up (((Below.refl _ _).alloc (Nat.le_refl _) _).alloc (by simp) _)) ?_).mono ?_
    · exact SB_made _ _ _ _ (by simp)
    rintro e w1 ⟨rfl, hb1⟩
    rw [HV.out]
    have Hb1 := Lib.hid hb1
    obtain ⟨hc1, hf1⟩ := bcell hb1
    simp only [World.size_alloc] at hc1 hf1
    have k0 := hc1 w.heap.size 0 (by omega)
    have k1 := hc1 w.heap.size 1 (by omega)
    have k2 := hc1 w.heap.size 2 (by omega)
    have k3 := hc1 w.heap.size 3 (by omega)
    simp [go_sem] at k0 k1 k2 k3
    clear hb1
    have q1 : b < w.heap.size + 1 := by omega
    have q2 : b < w.heap.size + 1 + 1 := by omega
    have q3 : b ≠ w.heap.size := by omega
    go_wp2
    refine bodyPost_ret (v := .tuple #[.agg #[.int .i64 (L j).s, .int .i64 (L j).u, .int .i64 (L j).z, .bool (L j).f], .bool true]) (by simp [results, Try.results13, go_sem, k0, k1, k2, k3]) rfl ⟨by unfold victimV; rw [HV.out, if_neg (by omega)]; rfl, ?_⟩
    have h2 := below_upto ((Below.refl w.heap.size w).alloc (Nat.le_refl _) _) (below_upto ((Below.refl _ _).alloc (Nat.le_refl _) _) Hb1.out (Nat.le_refl _)) (Nat.le_refl _)
    exact (((h2.setCell (Nat.le_refl _) _).setCell (Nat.le_refl _) _).setCell (Nat.le_refl _) _).setCell (Nat.le_refl _) _

set_option maxHeartbeats 1000000 in
theorem rPlan_any (n c : Nat) (A : Option Addr) (need : Int) (L : Nat → Ld) (w : World) (hn : n ≤ 200) (hA : SL w A n L) :
    Calls Try.prog 14 #[.int .i64 need, .slice A n c] w (PlanPost 37 L n need w) := by
  obtain ⟨i0, hi, hz0, hz1, hz2⟩ := info_parts rload_info
  have hmk := run_make_bools n (by omega)
  have HA := Lib.hid hA
  clear hA
  go_enter Try.func14, Try.ntmps14
  go_wp2
  clear hmk
  go_loopw [7, 8] (fun v x wr => ∃ (t : Nat) (y : Int), x = .int .i64 y ∧ PlanAt 37 L n need w t v y wr) (fun v _ _ => n - lenV v)
  case atStart =>
    refine ⟨0, 0, rfl, ⟨fun i h => by omega, rfl, World.ownsRow_nil _ _ _ _, ⟨_, heap_alloc_new w _, by simp, fun i hi => by simp [seqG, hi]⟩, (Below.refl _ _).alloc (Nat.le_refl _) _⟩⟩
  case round =>
    obtain ⟨t, y, rfl, hp⟩ := hrel
    by_cases hy : y < need
    · go_wp2_with fail
      refine (best_any n c n _ _ L (seqG L n t) _ (by unfold maxLen; omega) (HA.out.up hp.below) hp.sb).mono ?_
      rintro e w2 ⟨rfl, hb2⟩
      have hp2 := hp.up hb2
      obtain ⟨v0, hv0⟩ : ∃ v0, bestTo L (seqG L n t) n = v0 := ⟨_, rfl⟩
      rw [hv0]
      have hbd : -1 ≤ v0 ∧ v0 < n := hv0 ▸ bestTo_bd L (seqG L n t) n
      have HV : Hid (pick L n t = v0) := Lib.hid hv0
      clear hv0
      by_cases hneg : v0 < 0
      · clear hb2 hp
        go_wp2
        go_ret2
        exact hp2.post (.inr (by rw [HV.out]; exact hneg)) rfl
      · obtain ⟨j, rfl⟩ := Int.eq_ofNat_of_zero_le (Int.not_lt.1 hneg)
        have hjn : j < n := by omega
        obtain ⟨b, o, rfl, hbl, hcl⟩ := HA.out (by omega)
        obtain ⟨c0, c1, c2, c3⟩ := hcl j hjn
        rw [← hp2.below.cell (p := ⟨b, o + j * 4, none⟩) hbl] at c0
        rw [← hp2.below.cell (p := ⟨b, o + j * 4 + 1, none⟩) hbl] at c1
        rw [← hp2.below.cell (p := ⟨b, o + j * 4 + 2, none⟩) hbl] at c2
        rw [← hp2.below.cell (p := ⟨b, o + j * 4 + 3, none⟩) hbl] at c3
        obtain ⟨hsz, hcs⟩ := hp2.cells
        obtain ⟨g1, g2⟩ := hcs j hjn
        have q1 : b ≠ w.heap.size := by omega
        have q2 : w.heap.size ≠ b := by omega
        have q3 : b < w2.heap.size := by omega
        have HP := Lib.hid hp2
        clear hcl hcs hp hp2 hb2
        have HO := Lib.hid ((ownsRow_setCell_below HP.out.own (a := ⟨w.heap.size, j, none⟩) (Nat.lt_succ_self _) (.bool true)).alloc (.cells #[.int .i64 (L j).s, .int .i64 (L j).u, .int .i64 (L j).z, .bool (L j).f] 37))
        have htn : t ≤ n := seq_le L n t fun i h => (HP.out.go i h).2
        have htn' : t < n := seq_lt L n t (fun i h => (HP.out.go i h).2) (by rw [HV.out]; omega)
        go_wp2_with (at_builtin; go_must (refine wpList_append_own_at _ rfl (.tmp 24) (.tmp 29) 33 rfl (w.heap.size + 1) 37 i0 _ 4 32 Try.underlying33 hi hz0 hz1 hz2 rfl (by omega) _ t (rowTo (planM L n) t) rfl HO.out ⟨w2.heap.size, 0, none⟩ 1 1 (L j).cells rfl rfl (ld_new _ _ (by simp) _ _) (ld_one _) (by unfold maxLen; omega) (by omega) (by simp; omega) ?_); intro v' w4 hown' hg _ _)
        have hp4 := HP.out.next (j := j) hy HV.out hjn hown' hg
        obtain ⟨_, _, _, y0, y1⟩ := seq_inv L n t fun i h => (HP.out.go i h).2
        rw [← HP.out.x] at y0 y1
        have hm := (bestTo_spec L (seqG L n t) n).1 (show 0 ≤ pick L n t by rw [HV.out]; omega)
        have hm2 := hm.2
        rw [show bestTo L (seqG L n t) n = (j : Int) from HV.out, Int.toNat_natCast] at hm2
        obtain ⟨_, m1, m2, m3, m4, _⟩ := may_bd hm2
        rw [show w2.cell? ⟨b, o + j * 4 + 1, none⟩ = w4.cell? ⟨b, o + j * 4 + 1, none⟩ from (HP.out.below.cell hbl).trans (hp4.below.cell hbl).symm] at c1
        rw [show w2.cell? ⟨b, o + j * 4 + 2, none⟩ = w4.cell? ⟨b, o + j * 4 + 2, none⟩ from (HP.out.below.cell hbl).trans (hp4.below.cell hbl).symm] at c2
        have HP4 := Lib.hid hp4
        have hl := HP.out.len
        have hl' := hp4.len
        clear hp4 hm hm2 hown' hg c0 c3 g1 g2
        go_quiet (fail)
        go_wp2
        have Hl := Lib.hid hl
        have Hl' := Lib.hid hl'
        clear hl hl'
        go_roundw
        case rel => exact ⟨t + 1, _, rfl, (HP4.out.drewN _).cast (by unfold Ld.free; omega)⟩
        case measure => simp [Hl.out, Hl'.out]; omega
    · go_wp2
      go_ret2
      exact hp.post (.inl (by omega)) rfl
set_option maxHeartbeats 1000000 in
theorem rGain_any (n c : Nat) (A : Option Addr) (L : Nat → Ld) (w : World) (hn : n ≤ 200) (hA : SL w A n L) :
    Calls Try.prog 16 #[.slice A n c] w fun e w' => e = .returned (.int .i64 (gainTo L n)) ∧ Below w.heap.size w w' := by
  have HA := Lib.hid hA
  clear hA
  go_enter Try.func16, Try.ntmps16
  go_wp2
  go_loopw [3, 4] (fun v i wr => ∃ (k : Nat) (x : Int), k ≤ n ∧ i = .int .i64 k ∧ v = .int .i64 x ∧ x = gainTo L k ∧ Below w.heap.size w wr) (fun _ i _ => n - (intOf i).toNat)
  case atStart => exact ⟨0, 0, Nat.zero_le _, rfl, rfl, rfl, Below.refl _ _⟩
  case round =>
    obtain ⟨k, x, hk, rfl, rfl, hx, hb⟩ := hrel
    by_cases hlt : k < n
    · obtain ⟨b, o, rfl, q0, q1, c0, c1, c2, c3⟩ := HA.out.at_ hb hlt
      have hbd := gainTo_bd L k
      rw [← hx] at hbd
      have HX := Lib.hid hx
      clear hx
      cases hr : rightB (L k).s (L k).u (L k).z
      · go_wp2_with (go_at_call 17; refine (rright_is _ _ hr).mono ?_; rintro e w2 ⟨rfl, hb2⟩)
        go_roundw
        case rel => exact ⟨k + 1, x, by omega, by go_num, rfl, by rw [gainTo_no hr]; exact HX.out, below_upto hb hb2 (Nat.le_refl _)⟩
        case measure => simp [intOf]; omega
      · have hrr := right_bd hr
        go_wp2_with (go_at_call 17; refine (rright_is _ _ hr).mono ?_; rintro e w2 ⟨rfl, hb2⟩; obtain ⟨hc, hf⟩ := bcell hb2)
        go_quiet (fail)
        go_wp2
        go_roundw
        case rel => exact ⟨k + 1, _, by omega, by go_num, rfl, by rw [gainTo_yes hr, ← HX.out]; omega, below_drewN (below_upto hb hb2 (Nat.le_refl _)) _⟩
        case measure => simp [intOf]; omega
    · go_wp2
      go_ret
      have e : k = n := by omega
      subst e
      exact ⟨by rw [← hx]; rfl, hb⟩

def worthB (s u z : Int) (f : Bool) (part : Int) : Bool := rightB s u z && (!f && (decide (0 ≤ part) && (decide (100 ≤ part) || decide (u * 100 ≤ part * z))))

theorem part_mul {part z : Int} (h0 : 0 ≤ part) (h1 : part ≤ 100) (h2 : 1 ≤ z) (h3 : z ≤ 1048576) : wrap64 (part * z) = part * z := by
  have a1 : part * z ≤ 100 * z := Int.mul_le_mul_of_nonneg_right h1 (by omega)
  have a2 : 0 ≤ part * z := Int.mul_nonneg h0 (by omega)
  exact IntWalk.wrap64_in _ ⟨by omega, by omega⟩

set_option maxHeartbeats 1000000 in
theorem worth_any (s u z : Int) (f : Bool) (part : Int) (w : World) :
    Calls Try.prog 18 #[.agg #[.int .i64 s, .int .i64 u, .int .i64 z, .bool f], .int .i64 part] w fun e w' => e = .returned (.bool (worthB s u z f part)) ∧ Below w.heap.size w w' := by
  cases hr : rightB s u z
  · go_enter Try.func18, Try.ntmps18
    go_wp2_with (go_at_call 7; refine (right_is _ _ hr).mono ?_; rintro e w' ⟨rfl, hb⟩; obtain ⟨hc, hf⟩ := bcell hb)
    go_ret
    exact ⟨ret_bool (by simp [worthB, hr]), below_upto ((Below.refl _ _).alloc (Nat.le_refl _) _) hb (Nat.le_refl _)⟩
  · have hbd := right_bd hr
    by_cases hp : 0 ≤ part ∧ part < 100
    · have hw := part_mul hp.1 (by omega) hbd.2.1 hbd.2.2.1
      have HW := Lib.hid hw
      clear hw
      go_enter Try.func18, Try.ntmps18
      go_wp2_with (go_at_call 7; refine (right_is _ _ hr).mono ?_; rintro e w' ⟨rfl, hb⟩; obtain ⟨hc, hf⟩ := bcell hb)
      all_goals
        go_ret
        refine ⟨ret_bool ?_, below_upto ((Below.refl _ _).alloc (Nat.le_refl _) _) hb (Nat.le_refl _)⟩
        first | (simp [worthB, *]; done) | (simp [worthB, *, HW.out]; done) | (simp [worthB, *, HW.out]; omega)
    · go_enter Try.func18, Try.ntmps18
      go_wp2_with (go_at_call 7; refine (right_is _ _ hr).mono ?_; rintro e w' ⟨rfl, hb⟩; obtain ⟨hc, hf⟩ := bcell hb)
      all_goals
        go_ret
        refine ⟨ret_bool ?_, below_upto ((Below.refl _ _).alloc (Nat.le_refl _) _) hb (Nat.le_refl _)⟩
        first | (simp [worthB, *]; done) | (simp [worthB, *]; omega)

set_option maxHeartbeats 1000000 in
theorem rworth_any (s u z : Int) (f : Bool) (part : Int) (w : World) :
    Calls Try.prog 19 #[.agg #[.int .i64 s, .int .i64 u, .int .i64 z, .bool f], .int .i64 part] w fun e w' => e = .returned (.bool (worthB s u z f part)) ∧ Below w.heap.size w w' := by
  cases hr : rightB s u z
  · go_enter Try.func19, Try.ntmps19
    go_wp2_with (go_at_call 17; refine (rright_is _ _ hr).mono ?_; rintro e w' ⟨rfl, hb⟩; obtain ⟨hc, hf⟩ := bcell hb)
    go_ret
    exact ⟨ret_bool (by simp [worthB, hr]), below_upto ((Below.refl _ _).alloc (Nat.le_refl _) _) hb (Nat.le_refl _)⟩
  · have hbd := right_bd hr
    by_cases hp : 0 ≤ part ∧ part ≤ 100
    · have hw := part_mul hp.1 hp.2 hbd.2.1 hbd.2.2.1
      have HW := Lib.hid hw
      have h100 : 100 ≤ part → u * 100 ≤ part * z := by
        intro h
        have : part = 100 := by omega
        subst this
        omega
      have H100 := Lib.hid h100
      clear hw h100
      go_enter Try.func19, Try.ntmps19
      go_wp2_with (go_at_call 17; refine (rright_is _ _ hr).mono ?_; rintro e w' ⟨rfl, hb⟩; obtain ⟨hc, hf⟩ := bcell hb)
      all_goals
        go_ret
        refine ⟨ret_bool ?_, below_upto ((Below.refl _ _).alloc (Nat.le_refl _) _) hb (Nat.le_refl _)⟩
        first | (simp [worthB, *]; done) | (simp [worthB, *, HW.out]; done) | (have h9 := H100.out; by_cases h8 : 100 ≤ part <;> simp [worthB, *, HW.out] <;> (intro _; exfalso; omega))
    · go_enter Try.func19, Try.ntmps19
      go_wp2_with (go_at_call 17; refine (rright_is _ _ hr).mono ?_; rintro e w' ⟨rfl, hb⟩; obtain ⟨hc, hf⟩ := bcell hb)
      all_goals
        go_ret
        refine ⟨ret_bool ?_, below_upto ((Below.refl _ _).alloc (Nat.le_refl _) _) hb (Nat.le_refl _)⟩
        first | (simp [worthB, *]; done) | (simp [worthB, *]; omega)
end Go.Proofs.Ytclcilbdopkamaa
