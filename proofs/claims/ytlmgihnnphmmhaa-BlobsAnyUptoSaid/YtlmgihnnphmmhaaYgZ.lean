/- Right of whatever place, the program's and the law's (printed by gen_yg.py). -/
import Derived.Test.YtlmgihnnphmmhaaMK
namespace Go.Proofs.Ytlmgihnnphmmhaa
open Go.RowKit
set_option linter.unusedVariables false
set_option linter.unusedSimpArgs false

/-- Where a sector lies. -/
theorem Cfg.of_cases {c : Cfg} (h : c.Ok) (s : Int) : c.of s = -1 ∨ ∃ k s' : Nat, s = (s' : Int) ∧ c.of s = (k : Int) ∧ k < c.segs ∧ 2 + c.journal + k * c.seg ≤ s' ∧ s' < 2 + c.journal + k * c.seg + c.seg := by
  by_cases h1 : s < 2 + (c.journal : Int)
  · exact .inl (Cfg.of_lo h1)
  · obtain ⟨m, hm⟩ := Int.eq_ofNat_of_zero_le (show 0 ≤ s - 2 - (c.journal : Int) by omega)
    have e : s = 2 + (c.journal : Int) + (m : Int) := by omega
    have h3 := h.h3
    rw [e, Cfg.of_nat]
    by_cases h2 : c.segs ≤ m / c.seg
    · exact .inl (if_pos h2)
    · have h4 := Nat.div_add_mod m c.seg
      have h5 := Nat.mod_lt m (show c.seg > 0 by omega)
      have h6 : m / c.seg * c.seg = c.seg * (m / c.seg) := Nat.mul_comm _ _
      exact .inr ⟨m / c.seg, 2 + c.journal + m, by omega, if_neg h2, by omega, by omega, by omega⟩
/-- A place that is right, in the laws' numbers. -/
def RightI (c : Cfg) (s n : Int) : Prop := ∃ k s' n' : Nat, s = (s' : Int) ∧ n = (n' : Int) ∧ RightN c s' n' k
set_option maxRecDepth 100000 in
set_option maxHeartbeats 2000000 in
theorem right_in (w : World) {c : Cfg} (h : c.Ok) {s n k : Nat} (hk : k < c.segs) (hlo : 2 + c.journal + k * c.seg ≤ s) (hlt : s < 2 + c.journal + k * c.seg + c.seg) (hnn : 13 ≤ n ∧ n ≤ 1048576) {res : Bool} (hres : decide (s + secs c.z n ≤ 2 + c.journal + k * c.seg + c.seg) = res) : Calls Try.prog 36 #[c.val, addrV s n] w fun e w' => e = .returned (.bool res) ∧ Below w.heap.size w w' := by
  have hroom := h.room
  have h0 := h.h0
  have h3 := h.h3
  have h2 := h.h2
  have hkl : k * c.seg + c.seg ≤ c.segs * c.seg := by have h4 : (k + 1) * c.seg ≤ c.segs * c.seg := Nat.mul_le_mul_right _ (by omega); rw [Nat.add_mul, Nat.one_mul] at h4; exact h4
  have hs : s ≤ 65536 := by omega
  have HO := Lib.hid (fun w' => of_any w' h (s : Int) (by omega))
  rw [Cfg.of_in h hlo hlt hk] at HO
  have HSG := Lib.hid (fun w' => segment_any w' h hk)
  have HSE := Lib.hid (fun w' => sectors_any w' h (s : Int) n (by omega) (by omega))
  have hsb := secs_big (z := c.z) (n := n) (by have := h.h1; omega)
  obtain ⟨a, ha⟩ : ∃ a, a = 2 + c.journal + k * c.seg := ⟨_, rfl⟩
  obtain ⟨t, ht⟩ : ∃ t, t = secs c.z n := ⟨_, rfl⟩
  rw [← ha] at HSG hres
  rw [← ht] at HSE hres hsb
  have i1 : ¬ (n : Int) < 13 := by omega
  have i2 : ¬ (n : Int) > 1048576 := by omega
  have i3 : (0 : Int) ≤ (k : Int) := by omega
  have w1 : IntKind.i64.wrap ((s : Int) + (t : Int)) = (s : Int) + (t : Int) := IntWalk.i64_in _ (by omega)
  have w2 : IntKind.i64.wrap ((a : Int) + (c.seg : Int)) = (a : Int) + (c.seg : Int) := IntWalk.i64_in _ (by omega)
  have k1 : decide ((s : Int) + (t : Int) ≤ (a : Int) + (c.seg : Int)) = res := by rw [← hres]; exact decide_eq_decide.2 (by omega)
  have k2 : decide (s + t ≤ a + c.seg) = res := hres
  have HB : Hid (∀ o o', Below w.heap.size w ((w.alloc o).alloc o')) := fun o o' => ((Below.refl _ _).alloc (Nat.le_refl _) o).alloc (by simp) o'
  clear h hroom h0 h3 h2 hkl hs ha ht hres hnn hlo hlt hk hsb
  unfold Cfg.val at *
  unfold addrV at *
  go_enter Try.func36, Try.ntmps36
  go_upto_region 1 with (fail)
  refine wp_forget (fun W => (BoxC W w.heap.size c ∧ W.cell? ⟨w.heap.size + 1, 0, none⟩ = some (.int .i64 (s : Nat)) ∧ W.cell? ⟨w.heap.size + 1, 1, none⟩ = some (.int .i64 (n : Nat))) ∧ Below w.heap.size w W ∧ w.heap.size + 1 < W.heap.size) ⟨?made, HB.out _ _, by simp⟩ ?_
  case made =>
    have b1 := heap_alloc2_old w (.cells c.cells 23) (.cells #[.int .i64 (s : Nat), .int .i64 (n : Nat)] 30)
    have b2 := heap_alloc2_new w (.cells c.cells 23) (.cells #[.int .i64 (s : Nat), .int .i64 (n : Nat)] 30)
    unfold Cfg.cells at b1 b2
    refine ⟨?_, by rw [cell_of_row _ _ _ _ _ _ b2]; rfl, by rw [cell_of_row _ _ _ _ _ _ b2]; rfl⟩
    unfold BoxC
    refine ⟨?_, ?_, ?_, ?_, ?_, ?_, ?_, ?_, ?_⟩ <;> (rw [cell_of_row _ _ _ _ _ _ b1]; rfl)
  clear HB
  rintro W ⟨⟨hbx, hs1, hn1⟩, hbW, hl⟩
  have HBW := Lib.hid hbW
  have HBX := Lib.hid hbx
  obtain ⟨q0, q1, q2, q3, q4, q5, q6, q7, q8⟩ := hbx
  clear hbW
  go_wp2_with fail
  refine (HO.out _).mono ?_
  rintro _ W1 ⟨rfl, hb1⟩
  have HB1 := Lib.hid (below_upto HBW.out hb1 (Nat.le_refl _))
  have HX1 := Lib.hid (HBX.out.up (w' := W1) fun j => hb1.cell (p := ⟨w.heap.size, j, none⟩) (by show w.heap.size < _; omega))
  have hs1' := (hb1.cell (p := ⟨w.heap.size + 1, 0, none⟩) hl).trans hs1
  have hn1' := (hb1.cell (p := ⟨w.heap.size + 1, 1, none⟩) hl).trans hn1
  have hl1 : w.heap.size + 1 < W1.heap.size := Nat.lt_of_lt_of_le hl hb1.size
  clear q0 q1 q2 q3 q4 q5 q6 q7 q8 hb1 hs1 hn1 hl HBW HBX HO
  obtain ⟨q0, q1, q2, q3, q4, q5, q6, q7, q8⟩ := HX1.out
  go_wp2_with fail
  refine (HSG.out _).mono ?_
  rintro _ W2 ⟨rfl, hb2⟩
  have HB2 := Lib.hid (below_upto HB1.out hb2 (Nat.le_refl _))
  have HX2 := Lib.hid (HX1.out.up (w' := W2) fun j => hb2.cell (p := ⟨w.heap.size, j, none⟩) (by show w.heap.size < _; omega))
  have hs2 := (hb2.cell (p := ⟨w.heap.size + 1, 0, none⟩) hl1).trans hs1'
  have hn2 := (hb2.cell (p := ⟨w.heap.size + 1, 1, none⟩) hl1).trans hn1'
  have hl2 : w.heap.size + 1 < W2.heap.size := Nat.lt_of_lt_of_le hl1 hb2.size
  have hl3 : w.heap.size < W2.heap.size := by omega
  clear q0 q1 q2 q3 q4 q5 q6 q7 q8 hb2 hs1' hn1' hl1 HB1 HX1 HSG
  obtain ⟨q0, q1, q2, q3, q4, q5, q6, q7, q8⟩ := HX2.out
  go_upto_region 5 with (fail)
  refine wp_region_up (by kernel_rfl) (by kernel_rfl) ?_
  repeat (go_big_quiet_step (first | (go_at_call 44; exact Calls.up_of (HSE.out _))))
  refine wpQuiet_nil ?_
  rintro _ ⟨⟨w1, hb1⟩, rfl⟩
  have HB3 := Lib.hid (below_upto HB2.out hb1 (Nat.le_refl _))
  clear hb1 HB2
  go_wp2
  go_ret
  exact ⟨rfl, HB3.out⟩
set_option maxRecDepth 100000 in
set_option maxHeartbeats 2000000 in
theorem right9_in (w : World) {c : Cfg} (h : c.Ok) (hs : c.sectors ≤ 3000) (hz : c.z ≤ 512) {s n k : Nat} (hk : k < c.segs) (hlo : 2 + c.journal + k * c.seg ≤ s) (hlt : s < 2 + c.journal + k * c.seg + c.seg) (hn : 13 ≤ n ∧ n ≤ 1048576) {res : Bool} (hres : decide (s + secs c.z n ≤ 2 + c.journal + k * c.seg + c.seg) = res) : Calls Try.prog 37 #[c.val, addrV s n] w fun e w' => e = .returned (.bool res) ∧ Below w.heap.size w w' := by
  have hp := secs_pos (z := c.z) (n := n) (by have := h.h1; omega) (by omega)
  have hsb := secs_big (z := c.z) (n := n) (by have := h.h1; omega)
  have HF : Hid (∀ w', Calls Try.prog 11 #[c.val] w' fun e w'' => e = .returned (.bool true) ∧ Below w'.heap.size w' w'') := fun w' => fits_true w' h hs hz
  have hroom := h.room
  have h3 := h.h3
  have h2 := h.h2
  have hkl : k * c.seg + c.seg ≤ c.segs * c.seg := by have h4 : (k + 1) * c.seg ≤ c.segs * c.seg := Nat.mul_le_mul_right _ (by omega); rw [Nat.add_mul, Nat.one_mul] at h4; exact h4
  have HO : Hid (∀ w', Calls Try.prog 29 #[c.val, .int .i64 (s : Nat)] w' fun e w'' => e = .returned (.int .i64 (k : Nat)) ∧ Below w'.heap.size w' w'') := fun w' => by
    have := rOf_any w' h (s : Int) (by omega)
    rwa [Cfg.of_in h hlo hlt hk] at this
  have HSE : Hid (∀ w', Calls Try.prog 15 #[c.val, addrV s n] w' fun e w'' => e = .returned (.int .i64 (secs c.z n : Nat)) ∧ Below w'.heap.size w' w'') := fun w' => sectors9_any w' h s n (by omega)
  obtain ⟨x, hx⟩ : ∃ x, secs c.z n = x := ⟨_, rfl⟩
  rw [hx] at HSE hp hres hsb
  obtain ⟨y, hy⟩ : ∃ y : Int, y = c.of ((s : Int) + (x : Int) - 1) := ⟨_, rfl⟩
  have HO2 : Hid (∀ w', Calls Try.prog 29 #[c.val, .int .i64 ((s : Int) + (x : Int) - 1)] w' fun e w'' => e = .returned (.int .i64 y) ∧ Below w'.heap.size w' w'') := fun w' => by
    have := rOf_any w' h ((s : Int) + (x : Int) - 1) (by omega)
    rwa [← hy] at this
  have hyr : (y == (k : Int)) = res := by
    rw [← hres]
    by_cases hin : s + x ≤ 2 + c.journal + k * c.seg + c.seg
    · have h0 := Cfg.of_in h (k := k) (m := s + x - 1) (by omega) (by omega) hk
      have e : (s : Int) + (x : Int) - 1 = ((s + x - 1 : Nat) : Int) := by omega
      rw [hy, e, h0, decide_eq_true hin]
      simp
    · rw [decide_eq_false hin]
      refine beq_eq_false_iff_ne.2 fun hyk => ?_
      rcases Cfg.of_cases h ((s : Int) + (x : Int) - 1) with h0 | ⟨k2, s2, e1, e2, _, _, e3⟩
      · rw [← hy, hyk] at h0; omega
      · rw [← hy, hyk] at e2
        have : k2 = k := by omega
        subst this
        omega
  have hsx : s + x ≤ 4294967296 := by omega
  have v1 : IntKind.i64.wrap ((s : Int) + (x : Int)) = (s : Int) + (x : Int) := IntWalk.i64_in _ (by omega)
  have v2 : IntKind.i64.wrap ((s : Int) + (x : Int) - 1) = (s : Int) + (x : Int) - 1 := IntWalk.i64_in _ (by omega)
  have i1 : ¬ (n : Int) < 13 := by omega
  have i2 : ¬ (n : Int) > 1048576 := by omega
  have i1' : ¬ n < 13 := by omega
  have i2' : ¬ 1048576 < n := by omega
  have i3 : (0 : Int) ≤ (k : Int) := by omega
  have HM := Lib.hid (two_made w c s n)
  have HB := Lib.hid (two_below w (.cells c.cells 23) (.cells #[.int .i64 (s : Nat), .int .i64 (n : Nat)] 30))
  clear h hx hroom h3 h2 hkl hlo hlt hres hk hsb hs hz hy
  unfold Cfg.cells at HM HB
  unfold Cfg.val addrV at *
  go_enter Try.func37, Try.ntmps37
  go_upto_region 1 with (fail)
  refine wp_forget (fun W => (BoxC W w.heap.size c ∧ W.cell? ⟨w.heap.size + 1, 0, none⟩ = some (.int .i64 (s : Nat)) ∧ W.cell? ⟨w.heap.size + 1, 1, none⟩ = some (.int .i64 (n : Nat))) ∧ Below w.heap.size w W ∧ w.heap.size + 1 < W.heap.size) ⟨HM.out, HB.out, by simp⟩ ?_
  clear HM HB
  rintro W ⟨⟨⟨q0, q1, q2, q3, q4, q5, q6, q7, q8⟩, t0, t1⟩, hbW, hl⟩
  have HBW := Lib.hid hbW
  have hl' : w.heap.size < W.heap.size := by omega
  clear hbW
  refine wp_upW (W := W) fun g => ?_
  go_wp2_with fail
  refine calls_upW (HF.out _) fun g => ?_
  go_wp2_with fail
  refine calls_upW (HO.out _) fun g => ?_
  go_upto_region 4 with (fail)
  refine wp_region_upW (by kernel_rfl) (by kernel_rfl) ?_
  repeat (go_big_quiet_step (first | (go_at_call 15; exact Calls.up_of (HSE.out _)) | (go_at_call 29; exact Calls.up_of (HO2.out _))))
  refine wpQuiet_nil ?_
  rintro _ ⟨g, rfl⟩
  have HBG : Hid (Below w.heap.size w g.world) := below_upto HBW.out g.h (Nat.le_refl _)
  go_wp2
  go_ret
  exact ⟨rfl, HBG.out⟩
/- A length that may not be, or no place: the program's. -/
set_option maxRecDepth 100000 in
set_option maxHeartbeats 2000000 in
theorem right_out (w : World) {c : Cfg} (h : c.Ok) (s n : Int) (hs : -9223372036854775808 ≤ s ∧ s ≤ 9223372036854775807) (hn : n < 13 ∨ 1048576 < n) : Calls Try.prog 36 #[c.val, addrV s n] w fun e w' => e = .returned (.bool false) ∧ Below w.heap.size w w' := by
  have HO := Lib.hid (fun w' => of_any w' h s hs)
  obtain ⟨q, hq⟩ : ∃ q, q = c.of s := ⟨_, rfl⟩
  rw [← hq] at HO
  have HM := Lib.hid (two_made w c s n)
  have HB := Lib.hid (two_below w (.cells c.cells 23) (.cells #[.int .i64 s, .int .i64 n] 30))
  clear h hq
  unfold Cfg.cells at HM HB
  unfold Cfg.val at *
  unfold addrV
  go_enter Try.func36, Try.ntmps36
  go_upto_region 1 with (fail)
  refine wp_forget (fun W => (BoxC W w.heap.size c ∧ W.cell? ⟨w.heap.size + 1, 0, none⟩ = some (.int .i64 s) ∧ W.cell? ⟨w.heap.size + 1, 1, none⟩ = some (.int .i64 n)) ∧ Below w.heap.size w W ∧ w.heap.size + 1 < W.heap.size) ⟨HM.out, HB.out, by simp⟩ ?_
  clear HM HB
  rintro W ⟨⟨⟨q0, q1, q2, q3, q4, q5, q6, q7, q8⟩, t0, t1⟩, hbW, hl⟩
  have HBW := Lib.hid hbW
  clear hbW
  go_wp2_with fail
  refine (HO.out _).mono ?_
  rintro _ w1 ⟨rfl, hb⟩
  have HB1 := Lib.hid (below_upto HBW.out hb (Nat.le_refl _))
  have t1' := (hb.cell (p := ⟨w.heap.size + 1, 1, none⟩) hl).trans t1
  have hl1 : w.heap.size + 1 < w1.heap.size := Nat.lt_of_lt_of_le hl hb.size
  clear hb HO q0 q1 q2 q3 q4 q5 q6 q7 q8 t0 t1 HBW hl
  by_cases hq0 : q < 0
  · clear hn
    go_wp2
    go_ret
    exact ⟨rfl, HB1.out⟩
  · rcases hn with hn | hn
    · go_wp2
      go_ret
      exact ⟨rfl, HB1.out⟩
    · have hn2 : ¬ n < 13 := by omega
      have hn3 : n > 1048576 := hn
      go_wp2
      go_ret
      exact ⟨rfl, HB1.out⟩
/- A length that may not be: the law's. -/
set_option maxRecDepth 100000 in
set_option maxHeartbeats 2000000 in
theorem right9_out (w : World) {c : Cfg} (h : c.Ok) (hfs : c.sectors ≤ 3000) (hfz : c.z ≤ 512) (s n : Int) (hn : n < 13 ∨ 1048576 < n) : Calls Try.prog 37 #[c.val, addrV s n] w fun e w' => e = .returned (.bool false) ∧ Below w.heap.size w w' := by
  have HF : Hid (∀ w', Calls Try.prog 11 #[c.val] w' fun e w'' => e = .returned (.bool true) ∧ Below w'.heap.size w' w'') := fun w' => fits_true w' h hfs hfz
  have HM := Lib.hid (two_made w c s n)
  have HB := Lib.hid (two_below w (.cells c.cells 23) (.cells #[.int .i64 s, .int .i64 n] 30))
  clear h hfs hfz
  unfold Cfg.cells at HM HB
  unfold Cfg.val addrV at *
  go_enter Try.func37, Try.ntmps37
  go_upto_region 1 with (fail)
  refine wp_forget (fun W => (BoxC W w.heap.size c ∧ W.cell? ⟨w.heap.size + 1, 0, none⟩ = some (.int .i64 s) ∧ W.cell? ⟨w.heap.size + 1, 1, none⟩ = some (.int .i64 n)) ∧ Below w.heap.size w W ∧ w.heap.size + 1 < W.heap.size) ⟨HM.out, HB.out, by simp⟩ ?_
  clear HM HB
  rintro W ⟨⟨⟨q0, q1, q2, q3, q4, q5, q6, q7, q8⟩, t0, t1⟩, hbW, hl⟩
  have HBW := Lib.hid hbW
  have hl' : w.heap.size < W.heap.size := by omega
  clear hbW
  refine wp_upW (W := W) fun g => ?_
  go_wp2_with fail
  refine calls_upW (HF.out _) fun g => ?_
  have HBG : Hid (Below w.heap.size w g.world) := below_upto HBW.out g.h (Nat.le_refl _)
  rcases hn with hn | hn
  · go_wp2
    go_ret
    exact ⟨rfl, HBG.out⟩
  · have hn2 : ¬ n < 13 := by omega
    have hn3 : n > 1048576 := hn
    go_wp2
    go_ret
    exact ⟨rfl, HBG.out⟩
/- No place: the law's. -/
set_option maxRecDepth 100000 in
set_option maxHeartbeats 2000000 in
theorem right9_neg (w : World) {c : Cfg} (h : c.Ok) (hfs : c.sectors ≤ 3000) (hfz : c.z ≤ 512) (s : Int) (hs : -9223372036854775808 ≤ s ∧ s ≤ 9223372036854775807) (ho : c.of s = -1) {n : Nat} (hn : 13 ≤ n ∧ n ≤ 1048576) : Calls Try.prog 37 #[c.val, addrV s n] w fun e w' => e = .returned (.bool false) ∧ Below w.heap.size w w' := by
  have HF : Hid (∀ w', Calls Try.prog 11 #[c.val] w' fun e w'' => e = .returned (.bool true) ∧ Below w'.heap.size w' w'') := fun w' => fits_true w' h hfs hfz
  have HO : Hid (∀ w', Calls Try.prog 29 #[c.val, .int .i64 s] w' fun e w'' => e = .returned (.int .i64 (-1)) ∧ Below w'.heap.size w' w'') := fun w' => by
    have := rOf_any w' h s hs
    rwa [ho] at this
  have HM := Lib.hid (two_made w c s n)
  have HB := Lib.hid (two_below w (.cells c.cells 23) (.cells #[.int .i64 s, .int .i64 (n : Nat)] 30))
  have i1 : ¬ (n : Int) < 13 := by omega
  have i2 : ¬ (n : Int) > 1048576 := by omega
  have i1' : ¬ n < 13 := by omega
  have i2' : ¬ 1048576 < n := by omega
  clear h hfs hfz ho hn
  unfold Cfg.cells at HM HB
  unfold Cfg.val addrV at *
  go_enter Try.func37, Try.ntmps37
  go_upto_region 1 with (fail)
  refine wp_forget (fun W => (BoxC W w.heap.size c ∧ W.cell? ⟨w.heap.size + 1, 0, none⟩ = some (.int .i64 s) ∧ W.cell? ⟨w.heap.size + 1, 1, none⟩ = some (.int .i64 (n : Nat))) ∧ Below w.heap.size w W ∧ w.heap.size + 1 < W.heap.size) ⟨HM.out, HB.out, by simp⟩ ?_
  clear HM HB
  rintro W ⟨⟨⟨q0, q1, q2, q3, q4, q5, q6, q7, q8⟩, t0, t1⟩, hbW, hl⟩
  have HBW := Lib.hid hbW
  have hl' : w.heap.size < W.heap.size := by omega
  clear hbW
  refine wp_upW (W := W) fun g => ?_
  go_wp2_with fail
  refine calls_upW (HF.out _) fun g => ?_
  go_wp2_with fail
  refine calls_upW (HO.out _) fun g => ?_
  go_upto_region 4 with (fail)
  refine wp_region_upW (by kernel_rfl) (by kernel_rfl) ?_
  repeat (go_big_quiet_step (fail))
  refine wpQuiet_nil ?_
  rintro _ ⟨g, rfl⟩
  have HBG : Hid (Below w.heap.size w g.world) := below_upto HBW.out g.h (Nat.le_refl _)
  go_wp2
  go_ret
  exact ⟨rfl, HBG.out⟩
/-- The two agree. -/
theorem right_both {c : Cfg} (h : c.Ok) (hfs : c.sectors ≤ 3000) (hfz : c.z ≤ 512) (s n : Int) (hs : -9223372036854775808 ≤ s ∧ s ≤ 9223372036854775807) :
    ∃ res : Bool, (res = true → RightI c s n) ∧ (∀ w, Calls Try.prog 36 #[c.val, addrV s n] w fun e w' => e = .returned (.bool res) ∧ Below w.heap.size w w') ∧ ∀ w, Calls Try.prog 37 #[c.val, addrV s n] w fun e w' => e = .returned (.bool res) ∧ Below w.heap.size w w' := by
  by_cases hn : n < 13 ∨ 1048576 < n
  · exact ⟨false, (fun e => by cases e), fun w => right_out w h s n hs hn, fun w => right9_out w h hfs hfz s n hn⟩
  · obtain ⟨n', rfl⟩ := Int.eq_ofNat_of_zero_le (show 0 ≤ n by omega)
    rcases Cfg.of_cases h s with ho | ⟨k, s', rfl, _, hk, hlo, hlt⟩
    · exact ⟨false, (fun e => by cases e), fun w => right_neg w h s n' hs ho, fun w => right9_neg w h hfs hfz s hs ho (by omega)⟩
    · refine ⟨decide (s' + secs c.z n' ≤ 2 + c.journal + k * c.seg + c.seg), fun e => ⟨k, s', n', rfl, rfl, hlo, of_decide_eq_true e, hk, by omega⟩, fun w => right_in w h hk hlo hlt (by omega) rfl, fun w => right9_in w h hfs hfz hk hlo hlt (by omega) rfl⟩
end Go.Proofs.Ytlmgihnnphmmhaa
