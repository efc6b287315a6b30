/- geom: of a right shape. The reference's geometry: Check of whatever numbers. -/
import Derived.Test.YtlmgihnnphmmhaaMC
namespace Go.Proofs.Ytlmgihnnphmmhaa
open Go.RowKit
set_option linter.unusedVariables false
set_option linter.unusedSimpArgs false

structure Cfg where
  sectors : Nat
  z : Nat
  journal : Nat
  seg : Nat
  page : Nat
  frames : Nat
  procs : Nat
  regions : Nat
  pages : Nat
def Cfg.val (c : Cfg) : Value := .agg #[.int .i64 (c.sectors : Nat), .int .i64 (c.z : Nat), .int .i64 (c.journal : Nat), .int .i64 (c.seg : Nat), .int .i64 (c.page : Nat), .int .i64 (c.frames : Nat), .int .i64 (c.procs : Nat), .int .i64 (c.regions : Nat), .int .i64 (c.pages : Nat)]
def blobN (z bytes : Nat) : Nat := bytes / z + (bytes % z + 40 + z - 1) / z
def Cfg.segs (c : Cfg) : Nat := (c.sectors - 2 - c.journal) / c.seg
structure Cfg.Ok (c : Cfg) : Prop where
  h0 : 1 ≤ c.sectors ∧ c.sectors ≤ 65536
  h1 : 64 ≤ c.z ∧ c.z ≤ 4096
  h2 : 4 ≤ c.journal ∧ c.journal ≤ 4096
  h3 : 2 ≤ c.seg ∧ c.seg ≤ 4096
  h4 : 16 ≤ c.page ∧ c.page ≤ 4096
  h5 : 4 ≤ c.frames ∧ c.frames ≤ 4096
  h6 : 1 ≤ c.procs ∧ c.procs ≤ 64
  h7 : 1 ≤ c.regions ∧ c.regions ≤ 32
  h8 : 1 ≤ c.pages ∧ c.pages ≤ 65536
  hs : 16 ≤ c.segs
  hb : blobN c.z (c.page + 64) ≤ c.seg
theorem Cfg.Ok.room {c : Cfg} (h : c.Ok) : 2 + c.journal + c.segs * c.seg ≤ c.sectors ∧ c.segs ≤ 65536 := by
  have h1 := h.hs
  have h3 := h.h3
  have h0 := h.h0
  unfold Cfg.segs at *
  have h2 : (c.sectors - 2 - c.journal) / c.seg * c.seg ≤ c.sectors - 2 - c.journal := Nat.div_mul_le_self _ _
  have h4 : (c.sectors - 2 - c.journal) / c.seg ≤ c.sectors - 2 - c.journal := Nat.div_le_self _ _
  have h5 : 0 < c.sectors - 2 - c.journal := by
    refine Nat.pos_of_ne_zero fun h => ?_
    rw [h, Nat.zero_div] at h1
    omega
  omega
theorem tdiv_nat (a b : Nat) : ((a : Int)).tdiv (b : Int) = ((a / b : Nat) : Int) := by
  rw [Int.tdiv_eq_ediv_of_nonneg (by omega)]; simp
theorem tmod_nat (a b : Nat) : ((a : Int)).tmod (b : Int) = ((a % b : Nat) : Int) := by
  rw [Int.tmod_eq_emod_of_nonneg (by omega)]; simp

/-- The shape c in memory, at p. -/
def BoxC (w : World) (p : Nat) (c : Cfg) : Prop := w.cell? ⟨p, 0, none⟩ = some (.int .i64 (c.sectors : Nat)) ∧ w.cell? ⟨p, 1, none⟩ = some (.int .i64 (c.z : Nat)) ∧ w.cell? ⟨p, 2, none⟩ = some (.int .i64 (c.journal : Nat)) ∧ w.cell? ⟨p, 3, none⟩ = some (.int .i64 (c.seg : Nat)) ∧ w.cell? ⟨p, 4, none⟩ = some (.int .i64 (c.page : Nat)) ∧
  w.cell? ⟨p, 5, none⟩ = some (.int .i64 (c.frames : Nat)) ∧ w.cell? ⟨p, 6, none⟩ = some (.int .i64 (c.procs : Nat)) ∧ w.cell? ⟨p, 7, none⟩ = some (.int .i64 (c.regions : Nat)) ∧ w.cell? ⟨p, 8, none⟩ = some (.int .i64 (c.pages : Nat))
theorem BoxC.up {w w' : World} {p : Nat} {c : Cfg} (h : BoxC w p c) (hb : ∀ j, w'.cell? ⟨p, j, none⟩ = w.cell? ⟨p, j, none⟩) : BoxC w' p c := by
  obtain ⟨h0, h1, h2, h3, h4, h5, h6, h7, h8⟩ := h
  exact ⟨(hb 0).trans h0, (hb 1).trans h1, (hb 2).trans h2, (hb 3).trans h3, (hb 4).trans h4, (hb 5).trans h5, (hb 6).trans h6, (hb 7).trans h7, (hb 8).trans h8⟩
def Cfg.cells (c : Cfg) : Array Value := #[.int .i64 (c.sectors : Nat), .int .i64 (c.z : Nat), .int .i64 (c.journal : Nat), .int .i64 (c.seg : Nat), .int .i64 (c.page : Nat), .int .i64 (c.frames : Nat), .int .i64 (c.procs : Nat), .int .i64 (c.regions : Nat), .int .i64 (c.pages : Nat)]
theorem BoxC.made (w : World) (c : Cfg) : BoxC (w.alloc (.cells c.cells 23)) w.heap.size c := by
  have b3 := heap_alloc_new w (.cells c.cells 23)
  unfold BoxC
  refine ⟨?_, ?_, ?_, ?_, ?_, ?_, ?_, ?_, ?_⟩ <;> (rw [cell_of_row _ _ _ _ _ _ b3]; rfl)
set_option maxHeartbeats 1000000 in
theorem between_any (w : World) (v lo hi : Int) (h : lo ≤ v ∧ v ≤ hi) : Calls Try.prog 101 #[.int .i64 v, .int .i64 lo, .int .i64 hi] w fun e w' => e = .returned (.bool true) ∧ w' = w := by
  have h1 := h.1
  have h2 := h.2
  go_enter Try.func101, Try.ntmps101
  go_wp2
  go_ret
  exact ⟨rfl, rfl⟩
set_option maxHeartbeats 1000000 in
theorem segments_any (w : World) {c : Cfg} (h : c.Ok) : Calls Try.prog 65 #[c.val] w fun e w' => e = .returned (.int .i64 (c.segs : Nat)) ∧ Below w.heap.size w w' := by
  have hr := h.room
  have i1 : ¬ (c.seg : Int) < 1 := by have := h.h3; omega
  obtain ⟨X, hX⟩ : ∃ X, X = c.sectors - 2 - c.journal := ⟨_, rfl⟩
  have e1 : (c.sectors : Int) - 2 - (c.journal : Int) = (X : Int) := by omega
  have e2 : ((X : Int)).tdiv (c.seg : Int) = (c.segs : Int) := by rw [tdiv_nat, hX]; rfl
  have e2' : ((X : Int)) / (c.seg : Int) = (c.segs : Int) := by rw [← e2, tdiv_nat]; simp
  have i2 : (0 : Int) ≤ (c.segs : Int) := by omega
  have i3 : (c.seg : Int) ≠ 0 := by omega
  have HB : Hid (∀ o, Below w.heap.size w (w.alloc o)) := fun o => (Below.refl _ _).alloc (Nat.le_refl _) o
  have b0 := h.h0
  have b2 := h.h2
  have e3 : wrap64 (c.segs : Int) = (c.segs : Int) := IntWalk.wrap64_in _ (by omega)
  clear h hX hr
  unfold Cfg.val
  go_enter Try.func65, Try.ntmps65
  go_wp2
  go_ret
  exact ⟨rfl, HB.out _⟩
theorem blobN_le (z b : Nat) (hz : 64 ≤ z) (hb : b ≤ 8192) : blobN z b ≤ 8192 ∧ b / z ≤ 8192 ∧ (b % z + 40 + z - 1) / z ≤ 8192 ∧ b % z < z := by
  have h1 : b / z ≤ b / 64 := Nat.div_le_div_left hz (by omega)
  have h2 : b % z < z := Nat.mod_lt _ (by omega)
  have h3 : (b % z + 40 + z - 1) / z ≤ (3 * z) / z := Nat.div_le_div_right (by omega)
  rw [Nat.mul_div_cancel _ (by omega)] at h3
  unfold blobN
  omega
set_option maxRecDepth 100000 in
set_option maxHeartbeats 1000000 in
theorem blobF_any (w : World) {c : Cfg} (h : c.Ok) (b : Nat) (hb : b ≤ 8192) : Calls Try.prog 102 #[c.val, .int .i64 (b : Nat)] w fun e w' => e = .returned (.int .i64 (blobN c.z b : Nat)) ∧ Below w.heap.size w w' := by
  have h1 := h.h1
  obtain ⟨l1, l2, l3, l4⟩ := blobN_le c.z b h1.1 hb
  obtain ⟨q, hq⟩ : ∃ q, q = b / c.z := ⟨_, rfl⟩
  obtain ⟨r, hr⟩ : ∃ r, r = b % c.z := ⟨_, rfl⟩
  obtain ⟨y, hy⟩ : ∃ y, y = b % c.z + 40 + c.z - 1 := ⟨_, rfl⟩
  obtain ⟨t, ht⟩ : ∃ t, t = (b % c.z + 40 + c.z - 1) / c.z := ⟨_, rfl⟩
  have i0 : ¬ (c.z : Int) < 1 := by omega
  have ib : ¬ (b : Int) < 0 := by omega
  have i3 : (c.z : Int) ≠ 0 := by omega
  have e1 : ((b : Int)).tdiv (c.z : Int) = (q : Int) := by rw [tdiv_nat, hq]
  have e1' : ((b : Int)) / (c.z : Int) = (q : Int) := by rw [hq]; simp
  have e2 : ((b : Int)).tmod (c.z : Int) = (r : Int) := by rw [tmod_nat, hr]
  have e2' : ((b : Int)) % (c.z : Int) = (r : Int) := by rw [hr]; simp
  have e3 : (r : Int) + 40 + (c.z : Int) - 1 = (y : Int) := by omega
  have e4 : ((y : Int)).tdiv (c.z : Int) = (t : Int) := by rw [tdiv_nat, ht, hy]
  have e4' : ((y : Int)) / (c.z : Int) = (t : Int) := by rw [ht, ← hy]; simp
  have w1 : IntKind.i64.wrap (q : Int) = (q : Int) := IntWalk.i64_in _ (by omega)
  have w2 : IntKind.i64.wrap (r : Int) = (r : Int) := IntWalk.i64_in _ (by omega)
  have w3 : IntKind.i64.wrap ((r : Int) + 40) = (r : Int) + 40 := IntWalk.i64_in _ (by omega)
  have w4 : IntKind.i64.wrap ((r : Int) + 40 + (c.z : Int)) = (r : Int) + 40 + (c.z : Int) := IntWalk.i64_in _ (by omega)
  have w5 : IntKind.i64.wrap (y : Int) = (y : Int) := IntWalk.i64_in _ (by omega)
  have w6 : IntKind.i64.wrap (t : Int) = (t : Int) := IntWalk.i64_in _ (by omega)
  have w7 : IntKind.i64.wrap ((q : Int) + (t : Int)) = (q : Int) + (t : Int) := IntWalk.i64_in _ (by omega)
  have HF : Hid ((q : Int) + (t : Int) = (blobN c.z b : Nat)) := by
    have : blobN c.z b = q + t := by rw [hq, ht]; exact rfl
    show (q : Int) + (t : Int) = _
    rw [this]; omega
  have HB : Hid (∀ o k, Below w.heap.size w ((w.alloc o).drewN k)) := fun o k => below_drewN ((Below.refl _ _).alloc (Nat.le_refl _) o) k
  clear h hq hr hy ht l1 l2 l3 l4 hb
  unfold Cfg.val
  go_enter Try.func102, Try.ntmps102
  go_upto_region 4 with (fail)
  go_quiet (fail)
  go_wp2
  go_ret
  rw [← HF.out]
  exact ⟨rfl, HB.out _ _⟩
theorem Calls.up_belowC {P : Program} {f : FuncId} {args : Array Value} {w : World} {g : Up w} {v : Value}
    (h : ∀ w', Calls P f args w' fun e w'' => e = .returned v ∧ Below w'.heap.size w' w'') : Calls P f args g.world fun e w'' => e = .returned v ∧ ∃ g' : Up w, w'' = g'.world := Calls.up_of (h _)
set_option maxRecDepth 100000 in
set_option maxHeartbeats 4000000 in
theorem check_any (w : World) {c : Cfg} (h : c.Ok) : Calls Try.prog 79 #[c.val] w fun e w' => e = .returned (.int .i64 0) ∧ Below w.heap.size w w' := by
  obtain ⟨h0, h1, h2, h3, h4, h5, h6, h7, h8, hs, hb⟩ := h
  have H : Hid c.Ok := ⟨h0, h1, h2, h3, h4, h5, h6, h7, h8, hs, hb⟩
  have HB : Hid (∀ o, Below w.heap.size w (w.alloc o)) := fun o => (Below.refl _ _).alloc (Nat.le_refl _) o
  have b0 := fun w => between_any w c.sectors 1 65536 (by omega)
  have b1 := fun w => between_any w c.z 64 4096 (by omega)
  have b2 := fun w => between_any w c.journal 4 4096 (by omega)
  have b3 := fun w => between_any w c.seg 2 4096 (by omega)
  have b4 := fun w => between_any w c.page 16 4096 (by omega)
  have b5 := fun w => between_any w c.frames 4 4096 (by omega)
  have b6 := fun w => between_any w c.procs 1 64 (by omega)
  have b7 := fun w => between_any w c.regions 1 32 (by omega)
  have b8 := fun w => between_any w c.pages 1 65536 (by omega)
  have k1 : decide ((c.segs : Int) < 16) = false := by simp; omega
  have k1' : ¬ (c.segs : Int) < 16 := by omega
  have k2 : ¬ (c.seg : Int) < (blobN c.z (c.page + 64) : Nat) := by omega
  have k2' : decide ((c.seg : Int) < (blobN c.z (c.page + 64) : Nat)) = false := by simp; omega
  have w1 : IntKind.i64.wrap ((c.page : Int) + 64) = (c.page : Int) + 64 := IntWalk.i64_in _ (by omega)
  have HSG : Hid (∀ w', Calls Try.prog 65 #[c.val] w' fun e w'' => e = .returned (.int .i64 (c.segs : Nat)) ∧ Below w'.heap.size w' w'') := fun w' => segments_any w' H.out
  have HBL : Hid (∀ w', Calls Try.prog 102 #[c.val, .int .i64 ((c.page : Int) + 64)] w' fun e w'' => e = .returned (.int .i64 (blobN c.z (c.page + 64) : Nat)) ∧ Below w'.heap.size w' w'') := fun w' => blobF_any w' H.out (c.page + 64) (by omega)
  clear h0 h1 h2 h3 h4 h5 h6 h7 h8 hs hb
  unfold Cfg.val at *
  go_enter Try.func79, Try.ntmps79
  go_wp2_with fail
  refine (b0 _).mono ?_
  rintro _ _ ⟨rfl, rfl⟩
  go_wp2_with fail
  refine (b1 _).mono ?_
  rintro _ _ ⟨rfl, rfl⟩
  go_wp2_with fail
  refine (b4 _).mono ?_
  rintro _ _ ⟨rfl, rfl⟩
  go_wp2_with fail
  refine (b2 _).mono ?_
  rintro _ _ ⟨rfl, rfl⟩
  go_wp2_with fail
  refine (b3 _).mono ?_
  rintro _ _ ⟨rfl, rfl⟩
  go_wp2_with fail
  refine (b5 _).mono ?_
  rintro _ _ ⟨rfl, rfl⟩
  go_wp2_with fail
  refine (b6 _).mono ?_
  rintro _ _ ⟨rfl, rfl⟩
  go_wp2_with fail
  refine (b7 _).mono ?_
  rintro _ _ ⟨rfl, rfl⟩
  go_wp2_with fail
  refine (b8 _).mono ?_
  rintro _ _ ⟨rfl, rfl⟩
  clear b0 b1 b2 b3 b4 b5 b6 b7 b8
  go_upto_region 4 with (fail)
  refine wp_forget (fun W => BoxC W w.heap.size c ∧ Below w.heap.size w W ∧ w.heap.size < W.heap.size) ⟨BoxC.made w c, HB.out _, by simp⟩ ?_
  clear HB
  rintro W ⟨⟨d0, d1, d2, d3, d4, d5, d6, d7, d8⟩, hbW, hl⟩
  have HBW := Lib.hid hbW
  clear hbW
  refine wp_region_up (by kernel_rfl) (by kernel_rfl) ?_
  repeat (go_big_quiet_step (first | (go_at_call 65; exact Calls.up_of (HSG.out _)) | (go_at_call 102; exact Calls.up_of (HBL.out _))))
  refine wpQuiet_nil ?_
  rintro _ ⟨⟨w1, hb1⟩, rfl⟩
  have HB1 := Lib.hid (below_upto HBW.out hb1 (Nat.le_refl _))
  clear hb1 HBW
  go_wp2
  go_ret
  exact ⟨rfl, HB1.out⟩
set_option maxRecDepth 100000 in
set_option maxHeartbeats 2000000 in
theorem segment_any (w : World) {c : Cfg} (h : c.Ok) {k : Nat} (hk : k < c.segs) : Calls Try.prog 46 #[c.val, .int .i64 (k : Nat)] w
    fun e w' => e = .returned (.tuple #[.int .i64 (2 + c.journal + k * c.seg : Nat), .int .i64 (c.seg : Nat), .int .i64 0]) ∧ Below w.heap.size w w' := by
  have hr := h.room
  have hkl : k * c.seg ≤ c.segs * c.seg := Nat.mul_le_mul_right _ (by omega)
  have hsl := h.h0
  have HCK : Hid (∀ w', Calls Try.prog 79 #[c.val] w' fun e w'' => e = .returned (.int .i64 0) ∧ Below w'.heap.size w' w'') := fun w' => check_any w' h
  have HSG : Hid (∀ w', Calls Try.prog 65 #[c.val] w' fun e w'' => e = .returned (.int .i64 (c.segs : Nat)) ∧ Below w'.heap.size w' w'') := fun w' => segments_any w' h
  have HB : Hid (∀ o, Below w.heap.size w (w.alloc o)) := fun o => (Below.refl _ _).alloc (Nat.le_refl _) o
  obtain ⟨m, hm⟩ : ∃ m, m = k * c.seg := ⟨_, rfl⟩
  obtain ⟨x, hx⟩ : ∃ x, x = 2 + c.journal + k * c.seg := ⟨_, rfl⟩
  have e1 : (k : Int) * (c.seg : Int) = (m : Int) := by rw [hm]; simp
  have w0 : IntKind.i64.wrap (m : Int) = (m : Int) := IntWalk.i64_in _ (by omega)
  have w1 : IntKind.i64.wrap (2 + (c.journal : Int)) = 2 + (c.journal : Int) := IntWalk.i64_in _ (by omega)
  have e2 : 2 + (c.journal : Int) + (m : Int) = (x : Int) := by omega
  have w2 : IntKind.i64.wrap (x : Int) = (x : Int) := IntWalk.i64_in _ (by omega)
  have k1 : ¬ (k : Int) ≥ (c.segs : Int) := by omega
  rw [← hx]
  clear h hr hkl hm hx hk
  unfold Cfg.val at *
  go_enter Try.func46, Try.ntmps46
  go_upto_region 1 with (fail)
  refine wp_forget (fun W => BoxC W w.heap.size c ∧ Below w.heap.size w W ∧ w.heap.size < W.heap.size) ⟨BoxC.made w c, HB.out _, by simp⟩ ?_
  clear HB
  rintro W ⟨⟨d0, d1, d2, d3, d4, d5, d6, d7, d8⟩, hbW, hl⟩
  have HBW := Lib.hid hbW
  clear hbW
  have HD : Hid (BoxC W w.heap.size c) := ⟨d0, d1, d2, d3, d4, d5, d6, d7, d8⟩
  go_wp2_with fail
  refine (HCK.out W).mono ?_
  rintro _ w1 ⟨rfl, hb1⟩
  have HB1 := Lib.hid (below_upto HBW.out hb1 (Nat.le_refl _))
  have HD1 := Lib.hid (HD.out.up (w' := w1) fun j => hb1.cell (p := ⟨w.heap.size, j, none⟩) hl)
  have hl1 : w.heap.size < w1.heap.size := Nat.lt_of_lt_of_le hl hb1.size
  clear d0 d1 d2 d3 d4 d5 d6 d7 d8 hb1 HBW hl HD
  obtain ⟨d0, d1, d2, d3, d4, d5, d6, d7, d8⟩ := HD1.out
  go_wp2_with fail
  refine (HSG.out w1).mono ?_
  rintro _ w2 ⟨rfl, hb2⟩
  have HB2 := Lib.hid (below_upto HB1.out hb2 (Nat.le_refl _))
  have HD2 := Lib.hid (HD1.out.up (w' := w2) fun j => hb2.cell (p := ⟨w.heap.size, j, none⟩) hl1)
  have HW : Hid (∀ m, Below w.heap.size w (w2.drewN m)) := fun m => below_drewN HB2.out m
  clear d0 d1 d2 d3 d4 d5 d6 d7 d8 hb2 HB1 HD1 hl1
  obtain ⟨d0, d1, d2, d3, d4, d5, d6, d7, d8⟩ := HD2.out
  go_upto_region 3 with (fail)
  go_quiet (fail)
  go_wp2
  refine bodyPost_ret (results_tmp3 rfl _ _ _) rfl ?_
  exact ⟨rfl, HW.out _⟩
/-- Which segment has a sector. -/
def Cfg.of (c : Cfg) (s : Int) : Int := if s < 2 + (c.journal : Int) then -1 else if (c.segs : Int) ≤ (s - (2 + (c.journal : Int))) / (c.seg : Int) then -1 else (s - (2 + (c.journal : Int))) / (c.seg : Int)
end Go.Proofs.Ytlmgihnnphmmhaa
namespace Go.Proofs.Ytlmgihnnphmmhaa
open Go.RowKit
set_option linter.unusedVariables false
set_option linter.unusedSimpArgs false

def cfgI (a0 a1 a2 a3 a4 a5 a6 a7 a8 : Int) : Value := .agg #[.int .i64 a0, .int .i64 a1, .int .i64 a2, .int .i64 a3, .int .i64 a4, .int .i64 a5, .int .i64 a6, .int .i64 a7, .int .i64 a8]
set_option maxHeartbeats 1000000 in
theorem rin_true (w : World) (v lo hi : Int) (h : lo ≤ v ∧ v ≤ hi) : Calls Try.prog 91 #[.int .i64 v, .int .i64 lo, .int .i64 hi] w fun e w' => e = .returned (.bool true) ∧ w' = w := by
  have h1 := h.1
  have h2 := h.2
  go_enter Try.func91, Try.ntmps91
  go_wp2
  go_ret
  exact ⟨rfl, rfl⟩
set_option maxHeartbeats 1000000 in
theorem rin_false (w : World) (v lo hi : Int) (h : ¬ (lo ≤ v ∧ v ≤ hi)) : Calls Try.prog 91 #[.int .i64 v, .int .i64 lo, .int .i64 hi] w fun e w' => e = .returned (.bool false) ∧ w' = w := by
  by_cases h1 : lo ≤ v
  · have h2 : ¬ v ≤ hi := fun h2 => h ⟨h1, h2⟩
    clear h
    go_enter Try.func91, Try.ntmps91
    go_wp2
    go_ret
    exact ⟨rfl, rfl⟩
  · clear h
    go_enter Try.func91, Try.ntmps91
    go_wp2
    go_ret
    exact ⟨rfl, rfl⟩
def PlainI (a0 a1 a2 a3 a4 a5 a6 a7 a8 : Int) : Prop := (1 ≤ a0 ∧ a0 ≤ 65536) ∧ (64 ≤ a1 ∧ a1 ≤ 4096) ∧ (16 ≤ a4 ∧ a4 ≤ 4096) ∧ (4 ≤ a2 ∧ a2 ≤ 4096) ∧ (2 ≤ a3 ∧ a3 ≤ 4096) ∧ (4 ≤ a5 ∧ a5 ≤ 4096) ∧ (1 ≤ a6 ∧ a6 ≤ 64) ∧ (1 ≤ a7 ∧ a7 ≤ 32) ∧ (1 ≤ a8 ∧ a8 ≤ 65536)
set_option maxRecDepth 100000 in
set_option maxHeartbeats 4000000 in
theorem rplain_true (w : World) {a0 a1 a2 a3 a4 a5 a6 a7 a8 : Int} (h : PlainI a0 a1 a2 a3 a4 a5 a6 a7 a8) : Calls Try.prog 72 #[cfgI a0 a1 a2 a3 a4 a5 a6 a7 a8] w fun e w' => e = .returned (.bool true) ∧ Below w.heap.size w w' := by
  obtain ⟨h0, h1, h4, h2, h3, h5, h6, h7, h8⟩ := h
  have HB : Hid (∀ o, Below w.heap.size w (w.alloc o)) := fun o => (Below.refl _ _).alloc (Nat.le_refl _) o
  unfold cfgI
  have b0 := Lib.hid (fun w => rin_true w a0 1 65536 h0)
  have b1 := Lib.hid (fun w => rin_true w a1 64 4096 h1)
  have b4 := Lib.hid (fun w => rin_true w a4 16 4096 h4)
  have b2 := Lib.hid (fun w => rin_true w a2 4 4096 h2)
  have b3 := Lib.hid (fun w => rin_true w a3 2 4096 h3)
  have b5 := Lib.hid (fun w => rin_true w a5 4 4096 h5)
  have b6 := Lib.hid (fun w => rin_true w a6 1 64 h6)
  have b7 := Lib.hid (fun w => rin_true w a7 1 32 h7)
  have b8 := Lib.hid (fun w => rin_true w a8 1 65536 h8)
  clear h0 h1 h4 h2 h3 h5 h6 h7 h8
  go_enter Try.func72, Try.ntmps72
  go_wp2_with fail
  refine (b0.out _).mono ?_
  rintro _ _ ⟨rfl, rfl⟩
  go_wp2_with fail
  refine (b1.out _).mono ?_
  rintro _ _ ⟨rfl, rfl⟩
  go_wp2_with fail
  refine (b4.out _).mono ?_
  rintro _ _ ⟨rfl, rfl⟩
  go_wp2_with fail
  refine (b2.out _).mono ?_
  rintro _ _ ⟨rfl, rfl⟩
  go_wp2_with fail
  refine (b3.out _).mono ?_
  rintro _ _ ⟨rfl, rfl⟩
  go_wp2_with fail
  refine (b5.out _).mono ?_
  rintro _ _ ⟨rfl, rfl⟩
  go_wp2_with fail
  refine (b6.out _).mono ?_
  rintro _ _ ⟨rfl, rfl⟩
  go_wp2_with fail
  refine (b7.out _).mono ?_
  rintro _ _ ⟨rfl, rfl⟩
  go_wp2_with fail
  refine (b8.out _).mono ?_
  rintro _ _ ⟨rfl, rfl⟩
  go_wp2
  go_ret
  exact ⟨rfl, HB.out _⟩
set_option maxRecDepth 100000 in
set_option maxHeartbeats 4000000 in
theorem rplain_f0 (w : World) {a0 a1 a2 a3 a4 a5 a6 a7 a8 : Int}  (h0 : ¬ (1 ≤ a0 ∧ a0 ≤ 65536)) : Calls Try.prog 72 #[cfgI a0 a1 a2 a3 a4 a5 a6 a7 a8] w fun e w' => e = .returned (.bool false) ∧ Below w.heap.size w w' := by
  have HB : Hid (∀ o, Below w.heap.size w (w.alloc o)) := fun o => (Below.refl _ _).alloc (Nat.le_refl _) o
  unfold cfgI
  have b0 := Lib.hid (fun w => rin_false w a0 1 65536 h0)
  clear h0
  go_enter Try.func72, Try.ntmps72
  go_wp2_with fail
  refine (b0.out _).mono ?_
  rintro _ _ ⟨rfl, rfl⟩
  go_wp2
  go_ret
  exact ⟨rfl, HB.out _⟩
set_option maxRecDepth 100000 in
set_option maxHeartbeats 4000000 in
theorem rplain_f1 (w : World) {a0 a1 a2 a3 a4 a5 a6 a7 a8 : Int} (h0 : 1 ≤ a0 ∧ a0 ≤ 65536) (h1 : ¬ (64 ≤ a1 ∧ a1 ≤ 4096)) : Calls Try.prog 72 #[cfgI a0 a1 a2 a3 a4 a5 a6 a7 a8] w fun e w' => e = .returned (.bool false) ∧ Below w.heap.size w w' := by
  have HB : Hid (∀ o, Below w.heap.size w (w.alloc o)) := fun o => (Below.refl _ _).alloc (Nat.le_refl _) o
  unfold cfgI
  have b0 := Lib.hid (fun w => rin_true w a0 1 65536 h0)
  have b1 := Lib.hid (fun w => rin_false w a1 64 4096 h1)
  clear h0 h1
  go_enter Try.func72, Try.ntmps72
  go_wp2_with fail
  refine (b0.out _).mono ?_
  rintro _ _ ⟨rfl, rfl⟩
  go_wp2_with fail
  refine (b1.out _).mono ?_
  rintro _ _ ⟨rfl, rfl⟩
  go_wp2
  go_ret
  exact ⟨rfl, HB.out _⟩
set_option maxRecDepth 100000 in
set_option maxHeartbeats 4000000 in
theorem rplain_f4 (w : World) {a0 a1 a2 a3 a4 a5 a6 a7 a8 : Int} (h0 : 1 ≤ a0 ∧ a0 ≤ 65536) (h1 : 64 ≤ a1 ∧ a1 ≤ 4096) (h4 : ¬ (16 ≤ a4 ∧ a4 ≤ 4096)) : Calls Try.prog 72 #[cfgI a0 a1 a2 a3 a4 a5 a6 a7 a8] w fun e w' => e = .returned (.bool false) ∧ Below w.heap.size w w' := by
  have HB : Hid (∀ o, Below w.heap.size w (w.alloc o)) := fun o => (Below.refl _ _).alloc (Nat.le_refl _) o
  unfold cfgI
  have b0 := Lib.hid (fun w => rin_true w a0 1 65536 h0)
  have b1 := Lib.hid (fun w => rin_true w a1 64 4096 h1)
  have b4 := Lib.hid (fun w => rin_false w a4 16 4096 h4)
  clear h0 h1 h4
  go_enter Try.func72, Try.ntmps72
  go_wp2_with fail
  refine (b0.out _).mono ?_
  rintro _ _ ⟨rfl, rfl⟩
  go_wp2_with fail
  refine (b1.out _).mono ?_
  rintro _ _ ⟨rfl, rfl⟩
  go_wp2_with fail
  refine (b4.out _).mono ?_
  rintro _ _ ⟨rfl, rfl⟩
  go_wp2
  go_ret
  exact ⟨rfl, HB.out _⟩
set_option maxRecDepth 100000 in
set_option maxHeartbeats 4000000 in
theorem rplain_f2 (w : World) {a0 a1 a2 a3 a4 a5 a6 a7 a8 : Int} (h0 : 1 ≤ a0 ∧ a0 ≤ 65536) (h1 : 64 ≤ a1 ∧ a1 ≤ 4096) (h4 : 16 ≤ a4 ∧ a4 ≤ 4096) (h2 : ¬ (4 ≤ a2 ∧ a2 ≤ 4096)) : Calls Try.prog 72 #[cfgI a0 a1 a2 a3 a4 a5 a6 a7 a8] w fun e w' => e = .returned (.bool false) ∧ Below w.heap.size w w' := by
  have HB : Hid (∀ o, Below w.heap.size w (w.alloc o)) := fun o => (Below.refl _ _).alloc (Nat.le_refl _) o
  unfold cfgI
  have b0 := Lib.hid (fun w => rin_true w a0 1 65536 h0)
  have b1 := Lib.hid (fun w => rin_true w a1 64 4096 h1)
  have b4 := Lib.hid (fun w => rin_true w a4 16 4096 h4)
  have b2 := Lib.hid (fun w => rin_false w a2 4 4096 h2)
  clear h0 h1 h4 h2
  go_enter Try.func72, Try.ntmps72
  go_wp2_with fail
  refine (b0.out _).mono ?_
  rintro _ _ ⟨rfl, rfl⟩
  go_wp2_with fail
  refine (b1.out _).mono ?_
  rintro _ _ ⟨rfl, rfl⟩
  go_wp2_with fail
  refine (b4.out _).mono ?_
  rintro _ _ ⟨rfl, rfl⟩
  go_wp2_with fail
  refine (b2.out _).mono ?_
  rintro _ _ ⟨rfl, rfl⟩
  go_wp2
  go_ret
  exact ⟨rfl, HB.out _⟩
set_option maxRecDepth 100000 in
set_option maxHeartbeats 4000000 in
theorem rplain_f3 (w : World) {a0 a1 a2 a3 a4 a5 a6 a7 a8 : Int} (h0 : 1 ≤ a0 ∧ a0 ≤ 65536) (h1 : 64 ≤ a1 ∧ a1 ≤ 4096) (h4 : 16 ≤ a4 ∧ a4 ≤ 4096) (h2 : 4 ≤ a2 ∧ a2 ≤ 4096) (h3 : ¬ (2 ≤ a3 ∧ a3 ≤ 4096)) : Calls Try.prog 72 #[cfgI a0 a1 a2 a3 a4 a5 a6 a7 a8] w fun e w' => e = .returned (.bool false) ∧ Below w.heap.size w w' := by
  have HB : Hid (∀ o, Below w.heap.size w (w.alloc o)) := fun o => (Below.refl _ _).alloc (Nat.le_refl _) o
  unfold cfgI
  have b0 := Lib.hid (fun w => rin_true w a0 1 65536 h0)
  have b1 := Lib.hid (fun w => rin_true w a1 64 4096 h1)
  have b4 := Lib.hid (fun w => rin_true w a4 16 4096 h4)
  have b2 := Lib.hid (fun w => rin_true w a2 4 4096 h2)
  have b3 := Lib.hid (fun w => rin_false w a3 2 4096 h3)
  clear h0 h1 h4 h2 h3
  go_enter Try.func72, Try.ntmps72
  go_wp2_with fail
  refine (b0.out _).mono ?_
  rintro _ _ ⟨rfl, rfl⟩
  go_wp2_with fail
  refine (b1.out _).mono ?_
  rintro _ _ ⟨rfl, rfl⟩
  go_wp2_with fail
  refine (b4.out _).mono ?_
  rintro _ _ ⟨rfl, rfl⟩
  go_wp2_with fail
  refine (b2.out _).mono ?_
  rintro _ _ ⟨rfl, rfl⟩
  go_wp2_with fail
  refine (b3.out _).mono ?_
  rintro _ _ ⟨rfl, rfl⟩
  go_wp2
  go_ret
  exact ⟨rfl, HB.out _⟩
set_option maxRecDepth 100000 in
set_option maxHeartbeats 4000000 in
theorem rplain_f5 (w : World) {a0 a1 a2 a3 a4 a5 a6 a7 a8 : Int} (h0 : 1 ≤ a0 ∧ a0 ≤ 65536) (h1 : 64 ≤ a1 ∧ a1 ≤ 4096) (h4 : 16 ≤ a4 ∧ a4 ≤ 4096) (h2 : 4 ≤ a2 ∧ a2 ≤ 4096) (h3 : 2 ≤ a3 ∧ a3 ≤ 4096) (h5 : ¬ (4 ≤ a5 ∧ a5 ≤ 4096)) : Calls Try.prog 72 #[cfgI a0 a1 a2 a3 a4 a5 a6 a7 a8] w fun e w' => e = .returned (.bool false) ∧ Below w.heap.size w w' := by
  have HB : Hid (∀ o, Below w.heap.size w (w.alloc o)) := fun o => (Below.refl _ _).alloc (Nat.le_refl _) o
  unfold cfgI
  have b0 := Lib.hid (fun w => rin_true w a0 1 65536 h0)
  have b1 := Lib.hid (fun w => rin_true w a1 64 4096 h1)
  have b4 := Lib.hid (fun w => rin_true w a4 16 4096 h4)
  have b2 := Lib.hid (fun w => rin_true w a2 4 4096 h2)
  have b3 := Lib.hid (fun w => rin_true w a3 2 4096 h3)
  have b5 := Lib.hid (fun w => rin_false w a5 4 4096 h5)
  clear h0 h1 h4 h2 h3 h5
  go_enter Try.func72, Try.ntmps72
  go_wp2_with fail
  refine (b0.out _).mono ?_
  rintro _ _ ⟨rfl, rfl⟩
  go_wp2_with fail
  refine (b1.out _).mono ?_
  rintro _ _ ⟨rfl, rfl⟩
  go_wp2_with fail
  refine (b4.out _).mono ?_
  rintro _ _ ⟨rfl, rfl⟩
  go_wp2_with fail
  refine (b2.out _).mono ?_
  rintro _ _ ⟨rfl, rfl⟩
  go_wp2_with fail
  refine (b3.out _).mono ?_
  rintro _ _ ⟨rfl, rfl⟩
  go_wp2_with fail
  refine (b5.out _).mono ?_
  rintro _ _ ⟨rfl, rfl⟩
  go_wp2
  go_ret
  exact ⟨rfl, HB.out _⟩
set_option maxRecDepth 100000 in
set_option maxHeartbeats 4000000 in
theorem rplain_f6 (w : World) {a0 a1 a2 a3 a4 a5 a6 a7 a8 : Int} (h0 : 1 ≤ a0 ∧ a0 ≤ 65536) (h1 : 64 ≤ a1 ∧ a1 ≤ 4096) (h4 : 16 ≤ a4 ∧ a4 ≤ 4096) (h2 : 4 ≤ a2 ∧ a2 ≤ 4096) (h3 : 2 ≤ a3 ∧ a3 ≤ 4096) (h5 : 4 ≤ a5 ∧ a5 ≤ 4096) (h6 : ¬ (1 ≤ a6 ∧ a6 ≤ 64)) : Calls Try.prog 72 #[cfgI a0 a1 a2 a3 a4 a5 a6 a7 a8] w fun e w' => e = .returned (.bool false) ∧ Below w.heap.size w w' := by
  have HB : Hid (∀ o, Below w.heap.size w (w.alloc o)) := fun o => (Below.refl _ _).alloc (Nat.le_refl _) o
  unfold cfgI
  have b0 := Lib.hid (fun w => rin_true w a0 1 65536 h0)
  have b1 := Lib.hid (fun w => rin_true w a1 64 4096 h1)
  have b4 := Lib.hid (fun w => rin_true w a4 16 4096 h4)
  have b2 := Lib.hid (fun w => rin_true w a2 4 4096 h2)
  have b3 := Lib.hid (fun w => rin_true w a3 2 4096 h3)
  have b5 := Lib.hid (fun w => rin_true w a5 4 4096 h5)
  have b6 := Lib.hid (fun w => rin_false w a6 1 64 h6)
  clear h0 h1 h4 h2 h3 h5 h6
  go_enter Try.func72, Try.ntmps72
  go_wp2_with fail
  refine (b0.out _).mono ?_
  rintro _ _ ⟨rfl, rfl⟩
  go_wp2_with fail
  refine (b1.out _).mono ?_
  rintro _ _ ⟨rfl, rfl⟩
  go_wp2_with fail
  refine (b4.out _).mono ?_
  rintro _ _ ⟨rfl, rfl⟩
  go_wp2_with fail
  refine (b2.out _).mono ?_
  rintro _ _ ⟨rfl, rfl⟩
  go_wp2_with fail
  refine (b3.out _).mono ?_
  rintro _ _ ⟨rfl, rfl⟩
  go_wp2_with fail
  refine (b5.out _).mono ?_
  rintro _ _ ⟨rfl, rfl⟩
  go_wp2_with fail
  refine (b6.out _).mono ?_
  rintro _ _ ⟨rfl, rfl⟩
  go_wp2
  go_ret
  exact ⟨rfl, HB.out _⟩
set_option maxRecDepth 100000 in
set_option maxHeartbeats 4000000 in
theorem rplain_f7 (w : World) {a0 a1 a2 a3 a4 a5 a6 a7 a8 : Int} (h0 : 1 ≤ a0 ∧ a0 ≤ 65536) (h1 : 64 ≤ a1 ∧ a1 ≤ 4096) (h4 : 16 ≤ a4 ∧ a4 ≤ 4096) (h2 : 4 ≤ a2 ∧ a2 ≤ 4096) (h3 : 2 ≤ a3 ∧ a3 ≤ 4096) (h5 : 4 ≤ a5 ∧ a5 ≤ 4096) (h6 : 1 ≤ a6 ∧ a6 ≤ 64) (h7 : ¬ (1 ≤ a7 ∧ a7 ≤ 32)) : Calls Try.prog 72 #[cfgI a0 a1 a2 a3 a4 a5 a6 a7 a8] w fun e w' => e = .returned (.bool false) ∧ Below w.heap.size w w' := by
  have HB : Hid (∀ o, Below w.heap.size w (w.alloc o)) := fun o => (Below.refl _ _).alloc (Nat.le_refl _) o
  unfold cfgI
  have b0 := Lib.hid (fun w => rin_true w a0 1 65536 h0)
  have b1 := Lib.hid (fun w => rin_true w a1 64 4096 h1)
  have b4 := Lib.hid (fun w => rin_true w a4 16 4096 h4)
  have b2 := Lib.hid (fun w => rin_true w a2 4 4096 h2)
  have b3 := Lib.hid (fun w => rin_true w a3 2 4096 h3)
  have b5 := Lib.hid (fun w => rin_true w a5 4 4096 h5)
  have b6 := Lib.hid (fun w => rin_true w a6 1 64 h6)
  have b7 := Lib.hid (fun w => rin_false w a7 1 32 h7)
  clear h0 h1 h4 h2 h3 h5 h6 h7
  go_enter Try.func72, Try.ntmps72
  go_wp2_with fail
  refine (b0.out _).mono ?_
  rintro _ _ ⟨rfl, rfl⟩
  go_wp2_with fail
  refine (b1.out _).mono ?_
  rintro _ _ ⟨rfl, rfl⟩
  go_wp2_with fail
  refine (b4.out _).mono ?_
  rintro _ _ ⟨rfl, rfl⟩
  go_wp2_with fail
  refine (b2.out _).mono ?_
  rintro _ _ ⟨rfl, rfl⟩
  go_wp2_with fail
  refine (b3.out _).mono ?_
  rintro _ _ ⟨rfl, rfl⟩
  go_wp2_with fail
  refine (b5.out _).mono ?_
  rintro _ _ ⟨rfl, rfl⟩
  go_wp2_with fail
  refine (b6.out _).mono ?_
  rintro _ _ ⟨rfl, rfl⟩
  go_wp2_with fail
  refine (b7.out _).mono ?_
  rintro _ _ ⟨rfl, rfl⟩
  go_wp2
  go_ret
  exact ⟨rfl, HB.out _⟩
set_option maxRecDepth 100000 in
set_option maxHeartbeats 4000000 in
theorem rplain_f8 (w : World) {a0 a1 a2 a3 a4 a5 a6 a7 a8 : Int} (h0 : 1 ≤ a0 ∧ a0 ≤ 65536) (h1 : 64 ≤ a1 ∧ a1 ≤ 4096) (h4 : 16 ≤ a4 ∧ a4 ≤ 4096) (h2 : 4 ≤ a2 ∧ a2 ≤ 4096) (h3 : 2 ≤ a3 ∧ a3 ≤ 4096) (h5 : 4 ≤ a5 ∧ a5 ≤ 4096) (h6 : 1 ≤ a6 ∧ a6 ≤ 64) (h7 : 1 ≤ a7 ∧ a7 ≤ 32) (h8 : ¬ (1 ≤ a8 ∧ a8 ≤ 65536)) : Calls Try.prog 72 #[cfgI a0 a1 a2 a3 a4 a5 a6 a7 a8] w fun e w' => e = .returned (.bool false) ∧ Below w.heap.size w w' := by
  have HB : Hid (∀ o, Below w.heap.size w (w.alloc o)) := fun o => (Below.refl _ _).alloc (Nat.le_refl _) o
  unfold cfgI
  have b0 := Lib.hid (fun w => rin_true w a0 1 65536 h0)
  have b1 := Lib.hid (fun w => rin_true w a1 64 4096 h1)
  have b4 := Lib.hid (fun w => rin_true w a4 16 4096 h4)
  have b2 := Lib.hid (fun w => rin_true w a2 4 4096 h2)
  have b3 := Lib.hid (fun w => rin_true w a3 2 4096 h3)
  have b5 := Lib.hid (fun w => rin_true w a5 4 4096 h5)
  have b6 := Lib.hid (fun w => rin_true w a6 1 64 h6)
  have b7 := Lib.hid (fun w => rin_true w a7 1 32 h7)
  have b8 := Lib.hid (fun w => rin_false w a8 1 65536 h8)
  clear h0 h1 h4 h2 h3 h5 h6 h7 h8
  go_enter Try.func72, Try.ntmps72
  go_wp2_with fail
  refine (b0.out _).mono ?_
  rintro _ _ ⟨rfl, rfl⟩
  go_wp2_with fail
  refine (b1.out _).mono ?_
  rintro _ _ ⟨rfl, rfl⟩
  go_wp2_with fail
  refine (b4.out _).mono ?_
  rintro _ _ ⟨rfl, rfl⟩
  go_wp2_with fail
  refine (b2.out _).mono ?_
  rintro _ _ ⟨rfl, rfl⟩
  go_wp2_with fail
  refine (b3.out _).mono ?_
  rintro _ _ ⟨rfl, rfl⟩
  go_wp2_with fail
  refine (b5.out _).mono ?_
  rintro _ _ ⟨rfl, rfl⟩
  go_wp2_with fail
  refine (b6.out _).mono ?_
  rintro _ _ ⟨rfl, rfl⟩
  go_wp2_with fail
  refine (b7.out _).mono ?_
  rintro _ _ ⟨rfl, rfl⟩
  go_wp2_with fail
  refine (b8.out _).mono ?_
  rintro _ _ ⟨rfl, rfl⟩
  go_wp2
  go_ret
  exact ⟨rfl, HB.out _⟩
theorem rplain_false (w : World) {a0 a1 a2 a3 a4 a5 a6 a7 a8 : Int} (h : ¬ PlainI a0 a1 a2 a3 a4 a5 a6 a7 a8) : Calls Try.prog 72 #[cfgI a0 a1 a2 a3 a4 a5 a6 a7 a8] w fun e w' => e = .returned (.bool false) ∧ Below w.heap.size w w' := by
  by_cases h0 : 1 ≤ a0 ∧ a0 ≤ 65536
  case neg => exact rplain_f0 w h0
  by_cases h1 : 64 ≤ a1 ∧ a1 ≤ 4096
  case neg => exact rplain_f1 w h0 h1
  by_cases h4 : 16 ≤ a4 ∧ a4 ≤ 4096
  case neg => exact rplain_f4 w h0 h1 h4
  by_cases h2 : 4 ≤ a2 ∧ a2 ≤ 4096
  case neg => exact rplain_f2 w h0 h1 h4 h2
  by_cases h3 : 2 ≤ a3 ∧ a3 ≤ 4096
  case neg => exact rplain_f3 w h0 h1 h4 h2 h3
  by_cases h5 : 4 ≤ a5 ∧ a5 ≤ 4096
  case neg => exact rplain_f5 w h0 h1 h4 h2 h3 h5
  by_cases h6 : 1 ≤ a6 ∧ a6 ≤ 64
  case neg => exact rplain_f6 w h0 h1 h4 h2 h3 h5 h6
  by_cases h7 : 1 ≤ a7 ∧ a7 ≤ 32
  case neg => exact rplain_f7 w h0 h1 h4 h2 h3 h5 h6 h7
  by_cases h8 : 1 ≤ a8 ∧ a8 ≤ 65536
  case neg => exact rplain_f8 w h0 h1 h4 h2 h3 h5 h6 h7 h8
  exact absurd ⟨h0, h1, h4, h2, h3, h5, h6, h7, h8⟩ h
end Go.Proofs.Ytlmgihnnphmmhaa
