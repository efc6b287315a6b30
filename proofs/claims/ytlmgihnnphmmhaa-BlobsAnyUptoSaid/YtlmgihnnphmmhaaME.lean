/- The reference's geometry: segments, Blob, Check. geom: Of, the program's and the reference's. The reference's Of, Segments. blobs: Sectors, Right. -/
import Derived.Test.YtlmgihnnphmmhaaMD
namespace Go.Proofs.Ytlmgihnnphmmhaa
open Go.RowKit
set_option linter.unusedVariables false
set_option linter.unusedSimpArgs false

/-- Numbers that are plain. -/
structure Cfg.Pl (c : Cfg) : Prop where
  h0 : 1 ≤ c.sectors ∧ c.sectors ≤ 65536
  h1 : 64 ≤ c.z ∧ c.z ≤ 4096
  h2 : 4 ≤ c.journal ∧ c.journal ≤ 4096
  h3 : 2 ≤ c.seg ∧ c.seg ≤ 4096
  h4 : 16 ≤ c.page ∧ c.page ≤ 4096
  h5 : 4 ≤ c.frames ∧ c.frames ≤ 4096
  h6 : 1 ≤ c.procs ∧ c.procs ≤ 64
  h7 : 1 ≤ c.regions ∧ c.regions ≤ 32
  h8 : 1 ≤ c.pages ∧ c.pages ≤ 65536
theorem Cfg.Ok.pl {c : Cfg} (h : c.Ok) : c.Pl := ⟨h.h0, h.h1, h.h2, h.h3, h.h4, h.h5, h.h6, h.h7, h.h8⟩
theorem plain_cfg {a0 a1 a2 a3 a4 a5 a6 a7 a8 : Int} (h : PlainI a0 a1 a2 a3 a4 a5 a6 a7 a8) : ∃ c : Cfg, c.Pl ∧ cfgI a0 a1 a2 a3 a4 a5 a6 a7 a8 = c.val := by
  obtain ⟨h0, h1, h4, h2, h3, h5, h6, h7, h8⟩ := h
  obtain ⟨b0, rfl⟩ : ∃ b : Nat, a0 = (b : Int) := ⟨a0.toNat, by omega⟩
  obtain ⟨b1, rfl⟩ : ∃ b : Nat, a1 = (b : Int) := ⟨a1.toNat, by omega⟩
  obtain ⟨b2, rfl⟩ : ∃ b : Nat, a2 = (b : Int) := ⟨a2.toNat, by omega⟩
  obtain ⟨b3, rfl⟩ : ∃ b : Nat, a3 = (b : Int) := ⟨a3.toNat, by omega⟩
  obtain ⟨b4, rfl⟩ : ∃ b : Nat, a4 = (b : Int) := ⟨a4.toNat, by omega⟩
  obtain ⟨b5, rfl⟩ : ∃ b : Nat, a5 = (b : Int) := ⟨a5.toNat, by omega⟩
  obtain ⟨b6, rfl⟩ : ∃ b : Nat, a6 = (b : Int) := ⟨a6.toNat, by omega⟩
  obtain ⟨b7, rfl⟩ : ∃ b : Nat, a7 = (b : Int) := ⟨a7.toNat, by omega⟩
  obtain ⟨b8, rfl⟩ : ∃ b : Nat, a8 = (b : Int) := ⟨a8.toNat, by omega⟩
  exact ⟨⟨b0, b1, b2, b3, b4, b5, b6, b7, b8⟩, ⟨by simp only; omega, by simp only; omega, by simp only; omega, by simp only; omega, by simp only; omega, by simp only; omega, by simp only; omega, by simp only; omega, by simp only; omega⟩, rfl⟩
theorem Cfg.Pl.plain {c : Cfg} (h : c.Pl) : PlainI c.sectors c.z c.journal c.seg c.page c.frames c.procs c.regions c.pages := by
  obtain ⟨h0, h1, h2, h3, h4, h5, h6, h7, h8⟩ := h
  exact ⟨by omega, by omega, by omega, by omega, by omega, by omega, by omega, by omega, by omega⟩
theorem Cfg.val_cfgI (c : Cfg) : c.val = cfgI c.sectors c.z c.journal c.seg c.page c.frames c.procs c.regions c.pages := rfl
theorem Cfg.val_inj {c d : Cfg} (h : c.val = d.val) : c = d := by
  unfold Cfg.val at h
  injection h with h
  obtain ⟨a0, a1, a2, a3, a4, a5, a6, a7, a8⟩ := c
  obtain ⟨b0, b1, b2, b3, b4, b5, b6, b7, b8⟩ := d
  simp only [Array.mk.injEq, List.cons.injEq, Value.int.injEq, true_and, and_true, Int.ofNat_inj] at h
  obtain ⟨rfl, rfl, rfl, rfl, rfl, rfl, rfl, rfl, rfl⟩ := h
  rfl
theorem blobN_eq (z b : Nat) (hz : 0 < z) : (b + 40 + z - 1) / z = blobN z b := by
  unfold blobN
  have h1 : b + 40 + z - 1 = (b % z + 40 + z - 1) + z * (b / z) := by have := Nat.div_add_mod b z; omega
  rw [h1, Nat.add_mul_div_left _ _ hz, Nat.add_comm]

set_option maxHeartbeats 1000000 in
theorem rup_any (w : World) (a b : Nat) (hb : 0 < b) (ha : a ≤ 1048576) (hb2 : b ≤ 1048576) : Calls Try.prog 92 #[.int .i64 (a : Nat), .int .i64 (b : Nat)] w fun e w' => e = .returned (.int .i64 ((a + b - 1) / b : Nat)) ∧ w' = w := by
  obtain ⟨x, hx⟩ : ∃ x, x = a + b - 1 := ⟨_, rfl⟩
  obtain ⟨y, hy⟩ : ∃ y, y = (a + b - 1) / b := ⟨_, rfl⟩
  have e1 : (a : Int) + (b : Int) - 1 = (x : Int) := by omega
  have e2 : ((x : Int)).tdiv (b : Int) = (y : Int) := by rw [tdiv_nat, hy, hx]
  have e2' : ((x : Int)) / (b : Int) = (y : Int) := by rw [hy, ← hx]; simp
  have i3 : (b : Int) ≠ 0 := by omega
  have hyl : y ≤ x := by rw [hy, ← hx]; exact Nat.div_le_self _ _
  have e3 : wrap64 (y : Int) = (y : Int) := IntWalk.wrap64_in _ (by omega)
  rw [← hy]
  clear hx hy hyl
  go_enter Try.func92, Try.ntmps92
  go_wp2
  go_ret
  exact ⟨ret_int e3, rfl⟩
set_option maxHeartbeats 1000000 in
theorem rsegs_any (w : World) {c : Cfg} (h : c.Pl) : Calls Try.prog 54 #[c.val] w fun e w' => e = .returned (.int .i64 (c.segs : Nat)) ∧ Below w.heap.size w w' := by
  have h0 := h.h0
  have h2 := h.h2
  have h3 := h.h3
  have HB : Hid (∀ o, Below w.heap.size w (w.alloc o)) := fun o => (Below.refl _ _).alloc (Nat.le_refl _) o
  have i3 : (c.seg : Int) ≠ 0 := by omega
  by_cases hn : (c.sectors : Int) - 2 - (c.journal : Int) < 0
  · have hz : c.segs = 0 := by unfold Cfg.segs; rw [show c.sectors - 2 - c.journal = 0 by omega, Nat.zero_div]
    rw [hz]
    clear h hz
    unfold Cfg.val
    go_enter Try.func54, Try.ntmps54
    go_wp2
    go_ret
    exact ⟨rfl, HB.out _⟩
  · obtain ⟨X, hX⟩ : ∃ X, X = c.sectors - 2 - c.journal := ⟨_, rfl⟩
    have e1 : (c.sectors : Int) - 2 - (c.journal : Int) = (X : Int) := by omega
    have e2 : ((X : Int)).tdiv (c.seg : Int) = (c.segs : Int) := by rw [tdiv_nat, hX]; rfl
    have e2' : ((X : Int)) / (c.seg : Int) = (c.segs : Int) := by rw [← e2, tdiv_nat]; simp
    have hl : c.segs ≤ X := by rw [hX]; exact Nat.div_le_self _ _
    have e3 : wrap64 (c.segs : Int) = (c.segs : Int) := IntWalk.wrap64_in _ (by omega)
    clear h hX hn hl
    unfold Cfg.val
    go_enter Try.func54, Try.ntmps54
    go_wp2
    go_ret
    exact ⟨ret_int e3, HB.out _⟩
set_option maxHeartbeats 1000000 in
theorem rblob_any (w : World) {c : Cfg} (h : c.Pl) (b : Nat) (hb : b ≤ 65536) : Calls Try.prog 73 #[c.val, .int .i64 (b : Nat)] w fun e w' => e = .returned (.int .i64 (blobN c.z b : Nat)) ∧ Below w.heap.size w w' := by
  have h1 := h.h1
  have HB : Hid (∀ o, Below w.heap.size w (w.alloc o)) := fun o => (Below.refl _ _).alloc (Nat.le_refl _) o
  have HU : Hid (∀ w', Calls Try.prog 92 #[.int .i64 ((b : Int) + 40), .int .i64 (c.z : Nat)] w' fun e w'' => e = .returned (.int .i64 (blobN c.z b : Nat)) ∧ w'' = w') := fun w' => by
    have := rup_any w' (b + 40) c.z (by omega) (by omega) (by omega)
    rw [blobN_eq _ _ (by omega)] at this
    exact this
  have ib : ¬ (b : Int) < 0 := by omega
  clear h
  unfold Cfg.val
  go_enter Try.func73, Try.ntmps73
  go_wp2_with fail
  refine (HU.out _).mono ?_
  rintro _ _ ⟨rfl, rfl⟩
  go_wp2
  go_ret
  exact ⟨rfl, HB.out _⟩
set_option maxRecDepth 100000 in
set_option maxHeartbeats 4000000 in
theorem rcheck_pl (w : World) {c : Cfg} (h : c.Pl) : Calls Try.prog 41 #[c.val] w fun e w' => e = .returned (.int .i64 ((if 16 ≤ c.segs ∧ blobN c.z (c.page + 64) ≤ c.seg then 0 else 1) : Nat)) ∧ Below w.heap.size w w' := by
  have H := Lib.hid h
  have HB : Hid (∀ o, Below w.heap.size w (w.alloc o)) := fun o => (Below.refl _ _).alloc (Nat.le_refl _) o
  have HPL : Hid (∀ w', Calls Try.prog 72 #[c.val] w' fun e w'' => e = .returned (.bool true) ∧ Below w'.heap.size w' w'') := fun w' => rplain_true w' H.out.plain
  have HSG : Hid (∀ w', Calls Try.prog 54 #[c.val] w' fun e w'' => e = .returned (.int .i64 (c.segs : Nat)) ∧ Below w'.heap.size w' w'') := fun w' => rsegs_any w' H.out
  have HBL : Hid (∀ w', Calls Try.prog 73 #[c.val, .int .i64 ((c.page : Int) + 64)] w' fun e w'' => e = .returned (.int .i64 (blobN c.z (c.page + 64) : Nat)) ∧ Below w'.heap.size w' w'') := fun w' => rblob_any w' H.out (c.page + 64) (by have := H.out.h4; omega)
  have w1 : IntKind.i64.wrap ((c.page : Int) + 64) = (c.page : Int) + 64 := IntWalk.i64_in _ (by have := H.out.h4; omega)
  have hcases : (c.segs < 16 ∧ (if 16 ≤ c.segs ∧ blobN c.z (c.page + 64) ≤ c.seg then 0 else 1) = 1) ∨ (16 ≤ c.segs ∧ c.seg < blobN c.z (c.page + 64) ∧ (if 16 ≤ c.segs ∧ blobN c.z (c.page + 64) ≤ c.seg then 0 else 1) = 1) ∨ (16 ≤ c.segs ∧ blobN c.z (c.page + 64) ≤ c.seg ∧ (if 16 ≤ c.segs ∧ blobN c.z (c.page + 64) ≤ c.seg then 0 else 1) = 0) := by
    by_cases h1 : 16 ≤ c.segs
    · by_cases h2 : blobN c.z (c.page + 64) ≤ c.seg
      · exact .inr (.inr ⟨h1, h2, if_pos ⟨h1, h2⟩⟩)
      · exact .inr (.inl ⟨h1, by omega, if_neg (fun h => h2 h.2)⟩)
    · exact .inl ⟨by omega, if_neg (fun h => h1 h.1)⟩
  generalize (if 16 ≤ c.segs ∧ blobN c.z (c.page + 64) ≤ c.seg then 0 else 1) = r at *
  clear h
  rcases hcases with ⟨k0, rfl⟩ | ⟨k0, k1, rfl⟩ | ⟨k0, k1, rfl⟩
  · have d1 : decide ((c.segs : Int) < 16) = true := by simp; omega
    clear k0
    unfold Cfg.val at *
    go_enter Try.func41, Try.ntmps41
    go_upto_region 1 with (fail)
    refine wp_forget (fun W => BoxC W w.heap.size c ∧ Below w.heap.size w W ∧ w.heap.size < W.heap.size) ⟨BoxC.made w c, HB.out _, by simp⟩ ?_
    clear HB
    rintro W ⟨⟨q0, q1, q2, q3, q4, q5, q6, q7, q8⟩, hbW, hl⟩
    have HBW := Lib.hid hbW
    clear hbW
    refine wp_region_up (by kernel_rfl) (by kernel_rfl) ?_
    repeat (go_big_quiet_step (first | (go_at_call 72; exact Calls.up_of (HPL.out _)) | (go_at_call 54; exact Calls.up_of (HSG.out _)) | (go_at_call 73; exact Calls.up_of (HBL.out _))))
    refine wpQuiet_nil ?_
    rintro _ ⟨⟨w1, hb1⟩, rfl⟩
    have HB1 := Lib.hid (below_upto HBW.out hb1 (Nat.le_refl _))
    clear hb1 HBW
    go_wp2
    go_ret
    exact ⟨rfl, HB1.out⟩
  · have d1 : decide ((c.segs : Int) < 16) = false := by simp; omega
    have d2 : decide ((c.seg : Int) < (blobN c.z (c.page + 64) : Nat)) = true := by simp; omega
    clear k0
    unfold Cfg.val at *
    go_enter Try.func41, Try.ntmps41
    go_upto_region 1 with (fail)
    refine wp_forget (fun W => BoxC W w.heap.size c ∧ Below w.heap.size w W ∧ w.heap.size < W.heap.size) ⟨BoxC.made w c, HB.out _, by simp⟩ ?_
    clear HB
    rintro W ⟨⟨q0, q1, q2, q3, q4, q5, q6, q7, q8⟩, hbW, hl⟩
    have HBW := Lib.hid hbW
    clear hbW
    refine wp_region_up (by kernel_rfl) (by kernel_rfl) ?_
    repeat (go_big_quiet_step (first | (go_at_call 72; exact Calls.up_of (HPL.out _)) | (go_at_call 54; exact Calls.up_of (HSG.out _)) | (go_at_call 73; exact Calls.up_of (HBL.out _))))
    refine wpQuiet_nil ?_
    rintro _ ⟨⟨w1, hb1⟩, rfl⟩
    have HB1 := Lib.hid (below_upto HBW.out hb1 (Nat.le_refl _))
    clear hb1 HBW
    go_wp2
    go_ret
    exact ⟨rfl, HB1.out⟩
  · have d1 : decide ((c.segs : Int) < 16) = false := by simp; omega
    have d2 : decide ((c.seg : Int) < (blobN c.z (c.page + 64) : Nat)) = false := by simp; omega
    have k2 : ¬ c.seg < blobN c.z (c.page + 64) := by omega
    clear k0 k1
    unfold Cfg.val at *
    go_enter Try.func41, Try.ntmps41
    go_upto_region 1 with (fail)
    refine wp_forget (fun W => BoxC W w.heap.size c ∧ Below w.heap.size w W ∧ w.heap.size < W.heap.size) ⟨BoxC.made w c, HB.out _, by simp⟩ ?_
    clear HB
    rintro W ⟨⟨q0, q1, q2, q3, q4, q5, q6, q7, q8⟩, hbW, hl⟩
    have HBW := Lib.hid hbW
    clear hbW
    refine wp_region_up (by kernel_rfl) (by kernel_rfl) ?_
    repeat (go_big_quiet_step (first | (go_at_call 72; exact Calls.up_of (HPL.out _)) | (go_at_call 54; exact Calls.up_of (HSG.out _)) | (go_at_call 73; exact Calls.up_of (HBL.out _))))
    refine wpQuiet_nil ?_
    rintro _ ⟨⟨w1, hb1⟩, rfl⟩
    have HB1 := Lib.hid (below_upto HBW.out hb1 (Nat.le_refl _))
    clear hb1 HBW
    go_wp2
    go_ret
    exact ⟨rfl, HB1.out⟩
/-- Check of whatever numbers: 0 just if they are a right shape. -/
theorem rcheck_any (w : World) (a0 a1 a2 a3 a4 a5 a6 a7 a8 : Int) : Calls Try.prog 41 #[cfgI a0 a1 a2 a3 a4 a5 a6 a7 a8] w
    fun e w' => ∃ r : Nat, e = .returned (.int .i64 (r : Nat)) ∧ Below w.heap.size w w' ∧ (r = 0 ∨ r = 1) ∧ (r = 0 ↔ ∃ c : Cfg, c.Ok ∧ cfgI a0 a1 a2 a3 a4 a5 a6 a7 a8 = c.val) := by
  by_cases hp : PlainI a0 a1 a2 a3 a4 a5 a6 a7 a8
  · obtain ⟨c, hc, he⟩ := plain_cfg hp
    rw [he]
    refine (rcheck_pl w hc).mono ?_
    rintro _ w1 ⟨rfl, hb⟩
    refine ⟨_, rfl, hb, ?_, ?_⟩
    · split
      · exact .inl rfl
      · exact .inr rfl
    · constructor
      · intro h
        split at h
        · rename_i h1
          exact ⟨c, ⟨hc.h0, hc.h1, hc.h2, hc.h3, hc.h4, hc.h5, hc.h6, hc.h7, hc.h8, h1.1, h1.2⟩, rfl⟩
        · cases h
      · rintro ⟨d, hd, hcd⟩
        rw [Cfg.val_inj hcd, if_pos ⟨hd.hs, hd.hb⟩]
  · have HPF := Lib.hid (fun w' => rplain_false w' hp)
    have HN : Hid (¬ ∃ c : Cfg, c.Ok ∧ cfgI a0 a1 a2 a3 a4 a5 a6 a7 a8 = c.val) := by
      rintro ⟨c, hc, he⟩
      refine hp ?_
      have := hc.pl.plain
      unfold Cfg.val cfgI at he
      injection he with he
      simp only [Array.mk.injEq, List.cons.injEq, Value.int.injEq, true_and, and_true] at he
      obtain ⟨rfl, rfl, rfl, rfl, rfl, rfl, rfl, rfl, rfl⟩ := he
      exact this
    have HB : Hid (∀ o, Below w.heap.size w (w.alloc o)) := fun o => (Below.refl _ _).alloc (Nat.le_refl _) o
    refine Calls.mono (R := fun e w' => e = .returned (.int .i64 1) ∧ Below w.heap.size w w') ?_ (fun e w1 ⟨h1, h2⟩ => ⟨1, h1, h2, .inr rfl, ⟨(fun h => by cases h), fun h => absurd h HN.out⟩⟩)
    clear HN hp
    unfold cfgI at *
    go_enter Try.func41, Try.ntmps41
    go_upto_region 1 with (fail)
    refine wp_forget (fun W => (W.cell? ⟨w.heap.size, 0, none⟩ = some (.int .i64 a0) ∧ W.cell? ⟨w.heap.size, 1, none⟩ = some (.int .i64 a1) ∧ W.cell? ⟨w.heap.size, 2, none⟩ = some (.int .i64 a2) ∧ W.cell? ⟨w.heap.size, 3, none⟩ = some (.int .i64 a3) ∧ W.cell? ⟨w.heap.size, 4, none⟩ = some (.int .i64 a4) ∧ W.cell? ⟨w.heap.size, 5, none⟩ = some (.int .i64 a5) ∧ W.cell? ⟨w.heap.size, 6, none⟩ = some (.int .i64 a6) ∧ W.cell? ⟨w.heap.size, 7, none⟩ = some (.int .i64 a7) ∧ W.cell? ⟨w.heap.size, 8, none⟩ = some (.int .i64 a8)) ∧ Below w.heap.size w W ∧ w.heap.size < W.heap.size) ⟨?made, HB.out _, by simp⟩ ?_
    case made =>
      have b3 := heap_alloc_new w (.cells #[.int .i64 a0, .int .i64 a1, .int .i64 a2, .int .i64 a3, .int .i64 a4, .int .i64 a5, .int .i64 a6, .int .i64 a7, .int .i64 a8] 23)
      refine ⟨?_, ?_, ?_, ?_, ?_, ?_, ?_, ?_, ?_⟩ <;> (rw [cell_of_row _ _ _ _ _ _ b3]; rfl)
    clear HB
    rintro W ⟨⟨q0, q1, q2, q3, q4, q5, q6, q7, q8⟩, hbW, hl⟩
    have HBW := Lib.hid hbW
    clear hbW
    refine wp_region_up (by kernel_rfl) (by kernel_rfl) ?_
    repeat (go_big_quiet_step (first | (go_at_call 72; exact Calls.up_of (HPF.out _))))
    refine wpQuiet_nil ?_
    rintro _ ⟨⟨w1, hb1⟩, rfl⟩
    have HB1 := Lib.hid (below_upto HBW.out hb1 (Nat.le_refl _))
    clear hb1 HBW
    go_wp2
    go_ret
    exact ⟨rfl, HB1.out⟩
end Go.Proofs.Ytlmgihnnphmmhaa
namespace Go.Proofs.Ytlmgihnnphmmhaa
open Go.RowKit
set_option linter.unusedVariables false
set_option linter.unusedSimpArgs false

theorem Cfg.of_lo {c : Cfg} {s : Int} (h : s < 2 + (c.journal : Int)) : c.of s = -1 := by unfold Cfg.of; rw [if_pos h]
theorem Cfg.of_nat {c : Cfg} {m : Nat} : c.of (2 + (c.journal : Int) + (m : Int)) = if c.segs ≤ m / c.seg then -1 else ((m / c.seg : Nat) : Int) := by
  unfold Cfg.of
  rw [if_neg (by omega), show 2 + (c.journal : Int) + (m : Int) - (2 + (c.journal : Int)) = (m : Int) by omega]
  have e : (m : Int) / (c.seg : Int) = ((m / c.seg : Nat) : Int) := by simp
  rw [e]
  by_cases h : c.segs ≤ m / c.seg
  · rw [if_pos h, if_pos (by omega)]
  · rw [if_neg h, if_neg (by omega)]
set_option maxRecDepth 100000 in
set_option maxHeartbeats 2000000 in
theorem of_any (w : World) {c : Cfg} (h : c.Ok) (s : Int) (hs : -9223372036854775808 ≤ s ∧ s ≤ 9223372036854775807) : Calls Try.prog 67 #[c.val, .int .i64 s] w fun e w' => e = .returned (.int .i64 (c.of s)) ∧ Below w.heap.size w w' := by
  have HCK : Hid (∀ w', Calls Try.prog 79 #[c.val] w' fun e w'' => e = .returned (.int .i64 0) ∧ Below w'.heap.size w' w'') := fun w' => check_any w' h
  have HSG : Hid (∀ w', Calls Try.prog 65 #[c.val] w' fun e w'' => e = .returned (.int .i64 (c.segs : Nat)) ∧ Below w'.heap.size w' w'') := fun w' => segments_any w' h
  have HB : Hid (∀ o, Below w.heap.size w (w.alloc o)) := fun o => (Below.refl _ _).alloc (Nat.le_refl _) o
  have b2 := h.h2
  have b3 := h.h3
  obtain ⟨at_, hat⟩ : ∃ a, a = 2 + c.journal := ⟨_, rfl⟩
  have e0 : 2 + (c.journal : Int) = (at_ : Int) := by omega
  by_cases hlo : s < 2 + (c.journal : Int)
  · have HO := Lib.hid (Cfg.of_lo hlo)
    rw [e0] at hlo
    have k1 : decide (s < (at_ : Int)) = true := by simp [hlo]
    clear h hat
    unfold Cfg.val at *
    go_enter Try.func67, Try.ntmps67
    go_upto_region 2 with (fail)
    refine wp_forget (fun W => BoxC W w.heap.size c ∧ Below w.heap.size w W ∧ w.heap.size < W.heap.size) ⟨BoxC.made w c, HB.out _, by simp⟩ ?_
    clear HB
    rintro W ⟨⟨q0, q1, q2, q3, q4, q5, q6, q7, q8⟩, hbW, hl⟩
    have HBW := Lib.hid hbW
    clear hbW
    refine wp_region_up (by kernel_rfl) (by kernel_rfl) ?_
    repeat (go_big_quiet_step (first | (go_at_call 79; exact Calls.up_of (HCK.out _)) | (go_at_call 65; exact Calls.up_of (HSG.out _))))
    refine wpQuiet_nil ?_
    rintro _ ⟨⟨w1, hb1⟩, rfl⟩
    have HB1 := Lib.hid (below_upto HBW.out hb1 (Nat.le_refl _))
    clear hb1 HBW
    go_wp2
    go_ret
    rw [HO.out]
    exact ⟨rfl, HB1.out⟩
  · obtain ⟨m, rfl⟩ : ∃ m : Nat, s = 2 + (c.journal : Int) + (m : Int) := ⟨(s - (2 + (c.journal : Int))).toNat, by omega⟩
    have HO := Lib.hid (Cfg.of_nat (c := c) (m := m))
    obtain ⟨q, hq⟩ : ∃ q, q = m / c.seg := ⟨_, rfl⟩
    rw [← hq] at HO
    obtain ⟨x, hx⟩ : ∃ x : Nat, (x : Int) = 2 + (c.journal : Int) + (m : Int) := ⟨2 + c.journal + m, by omega⟩
    have ex : 2 + (c.journal : Int) + (m : Int) = (x : Int) := hx.symm
    rw [ex] at HO hs ⊢
    have e1 : (x : Int) - (at_ : Int) = (m : Int) := by omega
    have e2 : ((m : Int)).tdiv (c.seg : Int) = (q : Int) := by rw [tdiv_nat, hq]
    have e2' : ((m : Int)) / (c.seg : Int) = (q : Int) := by rw [hq]; simp
    have i3 : (c.seg : Int) ≠ 0 := by omega
    have hql : q ≤ m := by rw [hq]; exact Nat.div_le_self _ _
    have w1 : IntKind.i64.wrap (m : Int) = (m : Int) := IntWalk.i64_in _ (by omega)
    have w2 : IntKind.i64.wrap (q : Int) = (q : Int) := IntWalk.i64_in _ (by omega)
    have w3 : wrap64 (q : Int) = (q : Int) := IntWalk.wrap64_in _ (by omega)
    have k0 : ¬ (x : Int) < (at_ : Int) := by omega
    have k0' : ¬ x < at_ := by omega
    have k0'' : decide ((x : Int) < (at_ : Int)) = false := by simp; omega
    by_cases hge : c.segs ≤ q
    · have ho := HO.out
      rw [if_pos hge] at ho
      have HO2 := Lib.hid ho
      have k1 : decide ((q : Int) ≥ (c.segs : Int)) = true := decide_eq_true (Int.ofNat_le.2 hge)
      clear h hat ho HO hx ex hq hql hlo
      unfold Cfg.val at *
      go_enter Try.func67, Try.ntmps67
      go_upto_region 2 with (fail)
      refine wp_forget (fun W => BoxC W w.heap.size c ∧ Below w.heap.size w W ∧ w.heap.size < W.heap.size) ⟨BoxC.made w c, HB.out _, by simp⟩ ?_
      clear HB
      rintro W ⟨⟨q0, q1, q2, q3, q4, q5, q6, q7, q8⟩, hbW, hl⟩
      have HBW := Lib.hid hbW
      clear hbW
      refine wp_region_up (by kernel_rfl) (by kernel_rfl) ?_
      repeat (go_big_quiet_step (first | (go_at_call 79; exact Calls.up_of (HCK.out _)) | (go_at_call 65; exact Calls.up_of (HSG.out _))))
      refine wpQuiet_nil ?_
      rintro _ ⟨⟨w1, hb1⟩, rfl⟩
      have HB1 := Lib.hid (below_upto HBW.out hb1 (Nat.le_refl _))
      clear hb1 HBW
      go_wp2
      go_ret
      rw [HO2.out]
      exact ⟨rfl, HB1.out⟩
    · have ho := HO.out
      rw [if_neg hge] at ho
      have HO2 := Lib.hid ho
      have k1 : decide ((q : Int) ≥ (c.segs : Int)) = false := decide_eq_false (Int.not_le.2 (Int.ofNat_lt.2 (Nat.lt_of_not_le hge)))
      have k2 : ¬ c.segs ≤ q := hge
      clear h hat ho HO hx ex hq hql hlo hge
      unfold Cfg.val at *
      go_enter Try.func67, Try.ntmps67
      go_upto_region 2 with (fail)
      refine wp_forget (fun W => BoxC W w.heap.size c ∧ Below w.heap.size w W ∧ w.heap.size < W.heap.size) ⟨BoxC.made w c, HB.out _, by simp⟩ ?_
      clear HB
      rintro W ⟨⟨q0, q1, q2, q3, q4, q5, q6, q7, q8⟩, hbW, hl⟩
      have HBW := Lib.hid hbW
      clear hbW
      refine wp_region_up (by kernel_rfl) (by kernel_rfl) ?_
      repeat (go_big_quiet_step (first | (go_at_call 79; exact Calls.up_of (HCK.out _)) | (go_at_call 65; exact Calls.up_of (HSG.out _))))
      refine wpQuiet_nil ?_
      rintro _ ⟨⟨w1, hb1⟩, rfl⟩
      have HB1 := Lib.hid (below_upto HBW.out hb1 (Nat.le_refl _))
      have q3' := hb1.cell (p := ⟨w.heap.size, 3, none⟩) hl
      clear hb1 HBW
      rw [q3] at q3'
      go_wp2
      go_ret
      rw [HO2.out]
      exact ⟨ret_int (by first | rfl | exact w3), HB1.out⟩
end Go.Proofs.Ytlmgihnnphmmhaa
namespace Go.Proofs.Ytlmgihnnphmmhaa
open Go.RowKit
set_option linter.unusedVariables false
set_option linter.unusedSimpArgs false

set_option maxHeartbeats 1000000 in
theorem rSegments_any (w : World) {c : Cfg} (h : c.Pl) : Calls Try.prog 19 #[c.val] w fun e w' => e = .returned (.int .i64 (c.segs : Nat)) ∧ Below w.heap.size w w' := by
  have HSG : Hid (∀ w', Calls Try.prog 54 #[c.val] w' fun e w'' => e = .returned (.int .i64 (c.segs : Nat)) ∧ Below w'.heap.size w' w'') := fun w' => rsegs_any w' h
  clear h
  have HA : Hid (∀ o, Below w.heap.size w (w.alloc o)) := fun o => (Below.refl _ _).alloc (Nat.le_refl _) o
  unfold Cfg.val at *
  go_enter Try.func19, Try.ntmps19
  go_wp2_with fail
  refine (HSG.out _).mono ?_
  rintro _ w1 ⟨rfl, hb⟩
  have HB := Lib.hid (below_upto (HA.out _) hb (Nat.le_refl _))
  clear hb
  go_wp2
  go_ret
  exact ⟨rfl, HB.out⟩
set_option maxRecDepth 100000 in
set_option maxHeartbeats 2000000 in
theorem rOf_any (w : World) {c : Cfg} (h : c.Ok) (s : Int) (hs : -9223372036854775808 ≤ s ∧ s ≤ 9223372036854775807) : Calls Try.prog 29 #[c.val, .int .i64 s] w fun e w' => e = .returned (.int .i64 (c.of s)) ∧ Below w.heap.size w w' := by
  have HSG : Hid (∀ w', Calls Try.prog 54 #[c.val] w' fun e w'' => e = .returned (.int .i64 (c.segs : Nat)) ∧ Below w'.heap.size w' w'') := fun w' => rsegs_any w' h.pl
  have HB : Hid (∀ o, Below w.heap.size w (w.alloc o)) := fun o => (Below.refl _ _).alloc (Nat.le_refl _) o
  have b2 := h.h2
  have b3 := h.h3
  by_cases hneg : s < 0
  · have HO := Lib.hid (Cfg.of_lo (c := c) (s := s) (by omega))
    have k0 : decide (s < 0) = true := by simp [hneg]
    clear h
    unfold Cfg.val at *
    go_enter Try.func29, Try.ntmps29
    go_upto_region 2 with (fail)
    refine wp_forget (fun W => BoxC W w.heap.size c ∧ Below w.heap.size w W ∧ w.heap.size < W.heap.size) ⟨BoxC.made w c, HB.out _, by simp⟩ ?_
    clear HB
    rintro W ⟨⟨q0, q1, q2, q3, q4, q5, q6, q7, q8⟩, hbW, hl⟩
    have HBW := Lib.hid hbW
    clear hbW
    refine wp_region_up (by kernel_rfl) (by kernel_rfl) ?_
    repeat (go_big_quiet_step (first | (go_at_call 54; exact Calls.up_of (HSG.out _))))
    refine wpQuiet_nil ?_
    rintro _ ⟨⟨w1, hb1⟩, rfl⟩
    have HB1 := Lib.hid (below_upto HBW.out hb1 (Nat.le_refl _))
    clear hb1 HBW
    go_wp2
    go_ret
    rw [HO.out]
    exact ⟨rfl, HB1.out⟩
  by_cases hlo : s < 2 + (c.journal : Int)
  · have HO := Lib.hid (Cfg.of_lo hlo)
    have k0 : decide (s < 0) = false := by simp; omega
    obtain ⟨d, hd⟩ : ∃ d, d = s - 2 - (c.journal : Int) := ⟨_, rfl⟩
    have e1 : s - 2 - (c.journal : Int) = d := hd.symm
    have k1 : decide (d < 0) = true := by simp; omega
    have w0 : wrap64 (s - 2) = s - 2 := IntWalk.wrap64_in _ (by omega)
    have w1 : wrap64 d = d := IntWalk.wrap64_in _ (by omega)
    have k1' : d < 0 := by omega
    clear h hd
    unfold Cfg.val at *
    go_enter Try.func29, Try.ntmps29
    go_upto_region 2 with (fail)
    refine wp_forget (fun W => BoxC W w.heap.size c ∧ Below w.heap.size w W ∧ w.heap.size < W.heap.size) ⟨BoxC.made w c, HB.out _, by simp⟩ ?_
    clear HB
    rintro W ⟨⟨q0, q1, q2, q3, q4, q5, q6, q7, q8⟩, hbW, hl⟩
    have HBW := Lib.hid hbW
    clear hbW
    refine wp_region_up (by kernel_rfl) (by kernel_rfl) ?_
    repeat (go_big_quiet_step (first | (go_at_call 54; exact Calls.up_of (HSG.out _))))
    refine wpQuiet_nil ?_
    rintro _ ⟨⟨w1, hb1⟩, rfl⟩
    have HB1 := Lib.hid (below_upto HBW.out hb1 (Nat.le_refl _))
    clear hb1 HBW
    go_wp2
    go_ret
    rw [HO.out]
    exact ⟨rfl, HB1.out⟩
  · obtain ⟨m, rfl⟩ : ∃ m : Nat, s = 2 + (c.journal : Int) + (m : Int) := ⟨(s - (2 + (c.journal : Int))).toNat, by omega⟩
    have HO := Lib.hid (Cfg.of_nat (c := c) (m := m))
    obtain ⟨q, hq⟩ : ∃ q, q = m / c.seg := ⟨_, rfl⟩
    rw [← hq] at HO
    obtain ⟨x, hx⟩ : ∃ x : Nat, (x : Int) = 2 + (c.journal : Int) + (m : Int) := ⟨2 + c.journal + m, by omega⟩
    have ex : 2 + (c.journal : Int) + (m : Int) = (x : Int) := hx.symm
    rw [ex] at HO hs ⊢
    have e1 : (x : Int) - 2 - (c.journal : Int) = (m : Int) := by omega
    have e2 : ((m : Int)).tdiv (c.seg : Int) = (q : Int) := by rw [tdiv_nat, hq]
    have e2' : ((m : Int)) / (c.seg : Int) = (q : Int) := by rw [hq]; simp
    have i3 : (c.seg : Int) ≠ 0 := by omega
    have hql : q ≤ m := by rw [hq]; exact Nat.div_le_self _ _
    have w1 : IntKind.i64.wrap (m : Int) = (m : Int) := IntWalk.i64_in _ (by omega)
    have w2 : IntKind.i64.wrap (q : Int) = (q : Int) := IntWalk.i64_in _ (by omega)
    have w3 : wrap64 (q : Int) = (q : Int) := IntWalk.wrap64_in _ (by omega)
    have w4 : wrap64 (m : Int) = (m : Int) := IntWalk.wrap64_in _ (by omega)
    have w5 : wrap64 ((x : Int) - 2) = (x : Int) - 2 := IntWalk.wrap64_in _ (by omega)
    have kx : decide ((x : Int) < 0) = false := decide_eq_false (Int.not_lt.2 (Int.natCast_nonneg x))
    have km : decide ((m : Int) < 0) = false := decide_eq_false (Int.not_lt.2 (Int.natCast_nonneg m))
    by_cases hge : c.segs ≤ q
    · have ho := HO.out
      rw [if_pos hge] at ho
      have HO2 := Lib.hid ho
      have k1 : decide ((q : Int) ≥ (c.segs : Int)) = true := decide_eq_true (Int.ofNat_le.2 hge)
      clear h ho HO hx ex hq hql hlo hneg
      unfold Cfg.val at *
      go_enter Try.func29, Try.ntmps29
      go_upto_region 2 with (fail)
      refine wp_forget (fun W => BoxC W w.heap.size c ∧ Below w.heap.size w W ∧ w.heap.size < W.heap.size) ⟨BoxC.made w c, HB.out _, by simp⟩ ?_
      clear HB
      rintro W ⟨⟨q0, q1, q2, q3, q4, q5, q6, q7, q8⟩, hbW, hl⟩
      have HBW := Lib.hid hbW
      clear hbW
      refine wp_region_up (by kernel_rfl) (by kernel_rfl) ?_
      repeat (go_big_quiet_step (first | (go_at_call 54; exact Calls.up_of (HSG.out _))))
      refine wpQuiet_nil ?_
      rintro _ ⟨⟨w1, hb1⟩, rfl⟩
      have HB1 := Lib.hid (below_upto HBW.out hb1 (Nat.le_refl _))
      clear hb1 HBW
      go_wp2
      go_ret
      rw [HO2.out]
      exact ⟨rfl, HB1.out⟩
    · have ho := HO.out
      rw [if_neg hge] at ho
      have HO2 := Lib.hid ho
      have k1 : decide ((q : Int) ≥ (c.segs : Int)) = false := decide_eq_false (Int.not_le.2 (Int.ofNat_lt.2 (Nat.lt_of_not_le hge)))
      have k2 : ¬ c.segs ≤ q := hge
      clear h ho HO hx ex hq hql hlo hge hneg
      unfold Cfg.val at *
      go_enter Try.func29, Try.ntmps29
      go_upto_region 2 with (fail)
      refine wp_forget (fun W => BoxC W w.heap.size c ∧ Below w.heap.size w W ∧ w.heap.size < W.heap.size) ⟨BoxC.made w c, HB.out _, by simp⟩ ?_
      clear HB
      rintro W ⟨⟨q0, q1, q2, q3, q4, q5, q6, q7, q8⟩, hbW, hl⟩
      have HBW := Lib.hid hbW
      clear hbW
      refine wp_region_up (by kernel_rfl) (by kernel_rfl) ?_
      repeat (go_big_quiet_step (first | (go_at_call 54; exact Calls.up_of (HSG.out _))))
      refine wpQuiet_nil ?_
      rintro _ ⟨⟨w1, hb1⟩, rfl⟩
      have HB1 := Lib.hid (below_upto HBW.out hb1 (Nat.le_refl _))
      have q3' := hb1.cell (p := ⟨w.heap.size, 3, none⟩) hl
      clear hb1 HBW
      rw [q3] at q3'
      go_wp2
      go_ret
      rw [HO2.out]
      exact ⟨ret_int (by first | rfl | exact w3), HB1.out⟩
end Go.Proofs.Ytlmgihnnphmmhaa
namespace Go.Proofs.Ytlmgihnnphmmhaa
open Go.RowKit
set_option linter.unusedVariables false
set_option linter.unusedSimpArgs false

def addrV (s n : Int) : Value := .agg #[.int .i64 s, .int .i64 n]
/-- How many sectors n bytes take. -/
def secs (z n : Nat) : Nat := (n + z - 1) / z
theorem secs_eq {z n : Nat} (hz : 0 < z) (hn : 0 < n) : secs z n = (n - 1) / z + 1 := by
  unfold secs
  rw [show n + z - 1 = (n - 1) + z by omega, Nat.add_div_right _ hz]
theorem secs_pos {z n : Nat} (hz : 0 < z) (hn : 0 < n) : 0 < secs z n := by rw [secs_eq hz hn]; exact Nat.succ_pos _
theorem secs_ge {z n : Nat} (hz : 0 < z) : n ≤ secs z n * z := by
  unfold secs
  have h1 := Nat.div_add_mod (n + z - 1) z
  have h2 := Nat.mod_lt (n + z - 1) hz
  rw [Nat.mul_comm] at h1
  omega
theorem secs_le {z n k : Nat} (hz : 0 < z) (h : n ≤ k * z) : secs z n ≤ k := by
  unfold secs
  have : (n + z - 1) / z ≤ (k * z + (z - 1)) / z := Nat.div_le_div_right (by omega)
  rw [Nat.mul_comm, Nat.mul_add_div hz, Nat.div_eq_of_lt (show z - 1 < z by omega)] at this
  omega
theorem secs_big {z n : Nat} (hz : 0 < z) : secs z n ≤ n + 1 := by
  refine secs_le hz ?_
  have : n + 1 ≤ (n + 1) * z := Nat.le_mul_of_pos_right _ hz
  omega
set_option maxRecDepth 100000 in
set_option maxHeartbeats 1000000 in
theorem sectors_any (w : World) {c : Cfg} (h : c.Ok) (s : Int) (n : Nat) (hn : 0 < n) (hn2 : n ≤ 4194304) : Calls Try.prog 44 #[c.val, addrV s n] w fun e w' => e = .returned (.int .i64 (secs c.z n : Nat)) ∧ Below w.heap.size w w' := by
  have h1 := h.h1
  obtain ⟨m, hm⟩ : ∃ m, m = n - 1 := ⟨_, rfl⟩
  obtain ⟨q, hq⟩ : ∃ q, q = m / c.z := ⟨_, rfl⟩
  have hse : secs c.z n = q + 1 := by rw [secs_eq (by omega) hn, hq, hm]
  have hql : q ≤ m := by rw [hq]; exact Nat.div_le_self _ _
  have e1 : (n : Int) - 1 = (m : Int) := by omega
  have e2 : ((m : Int)).tdiv (c.z : Int) = (q : Int) := by rw [tdiv_nat, hq]
  have e2' : ((m : Int)) / (c.z : Int) = (q : Int) := by rw [hq]; simp
  have i0 : ¬ (c.z : Int) < 1 := by omega
  have i1 : ¬ (n : Int) < 1 := by omega
  have i3 : (c.z : Int) ≠ 0 := by omega
  have w3 : wrap64 (q : Int) = (q : Int) := IntWalk.wrap64_in _ (by omega)
  have w4 : wrap64 ((q : Int) + 1) = (q : Int) + 1 := IntWalk.wrap64_in _ (by omega)
  have HB : Hid (∀ o o', Below w.heap.size w ((w.alloc o).alloc o')) := fun o o' => ((Below.refl _ _).alloc (Nat.le_refl _) o).alloc (by simp) o'
  have HS : Hid ((q : Int) + 1 = (secs c.z n : Nat)) := by show (q : Int) + 1 = _; rw [hse]; omega
  clear h hq hse hql hm
  unfold Cfg.val addrV
  go_enter Try.func44, Try.ntmps44
  go_wp2
  go_ret
  rw [← HS.out]
  exact ⟨ret_int (by first | rfl | exact w4 | simp [w3, w4]), HB.out _ _⟩
set_option maxRecDepth 100000 in
set_option maxHeartbeats 1000000 in
theorem right_neg (w : World) {c : Cfg} (h : c.Ok) (s n : Int) (hs : -9223372036854775808 ≤ s ∧ s ≤ 9223372036854775807) (ho : c.of s = -1) : Calls Try.prog 36 #[c.val, addrV s n] w fun e w' => e = .returned (.bool false) ∧ Below w.heap.size w w' := by
  have HO := Lib.hid (fun w' => of_any w' h s hs)
  rw [ho] at HO
  have HB : Hid (∀ o o', Below w.heap.size w ((w.alloc o).alloc o')) := fun o o' => ((Below.refl _ _).alloc (Nat.le_refl _) o).alloc (by simp) o'
  clear h ho
  unfold Cfg.val at *
  unfold addrV
  go_enter Try.func36, Try.ntmps36
  go_wp2_with fail
  refine (HO.out _).mono ?_
  rintro _ w1 ⟨rfl, hb⟩
  have HB1 := Lib.hid (below_upto (HB.out _ _) hb (Nat.le_refl _))
  clear hb HB HO
  go_wp2
  go_ret
  exact ⟨rfl, HB1.out⟩
/-- A place that is right. -/
structure RightN (c : Cfg) (s n k : Nat) : Prop where
  lo : 2 + c.journal + k * c.seg ≤ s
  hi : s + secs c.z n ≤ 2 + c.journal + k * c.seg + c.seg
  hk : k < c.segs
  hn : 13 ≤ n ∧ n ≤ 1048576
theorem RightN.of {c : Cfg} {s n k : Nat} (h : c.Ok) (r : RightN c s n k) : c.of (s : Int) = (k : Int) := by
  have hp := secs_pos (z := c.z) (n := n) (by have := h.h1; omega) (by have := r.hn; omega)
  obtain ⟨m, hm⟩ : ∃ m : Nat, s = 2 + c.journal + m := ⟨s - 2 - c.journal, by have := r.lo; omega⟩
  have h3 := h.h3
  have hd : m / c.seg = k := by
    rw [Nat.div_eq_iff (by omega)]
    have := r.lo
    have := r.hi
    constructor <;> (try rw [Nat.mul_comm]) <;> (try rw [Nat.mul_comm]) <;> omega
  rw [hm, show ((2 + c.journal + m : Nat) : Int) = 2 + (c.journal : Int) + (m : Int) by omega, Cfg.of_nat, hd, if_neg (by have := r.hk; omega)]
set_option maxRecDepth 100000 in
set_option maxHeartbeats 2000000 in
theorem right_true (w : World) {c : Cfg} (h : c.Ok) {s n k : Nat} (r : RightN c s n k) : Calls Try.prog 36 #[c.val, addrV s n] w fun e w' => e = .returned (.bool true) ∧ Below w.heap.size w w' := by
  have hroom := h.room
  have h0 := h.h0
  have h3 := h.h3
  have h2 := h.h2
  have hkl : k * c.seg + c.seg ≤ c.segs * c.seg := by have := r.hk; have h4 : (k + 1) * c.seg ≤ c.segs * c.seg := Nat.mul_le_mul_right _ (by omega); rw [Nat.add_mul, Nat.one_mul] at h4; exact h4
  have hs : s ≤ 65536 := by have := r.hi; have := r.lo; omega
  have HO := Lib.hid (fun w' => of_any w' h (s : Int) (by omega))
  rw [r.of h] at HO
  have HSG := Lib.hid (fun w' => segment_any w' h r.hk)
  have HSE := Lib.hid (fun w' => sectors_any w' h (s : Int) n (by have := r.hn; omega) (by have := r.hn; omega))
  have hnn := r.hn
  have hhi := r.hi
  obtain ⟨a, ha⟩ : ∃ a, a = 2 + c.journal + k * c.seg := ⟨_, rfl⟩
  obtain ⟨t, ht⟩ : ∃ t, t = secs c.z n := ⟨_, rfl⟩
  rw [← ha] at HSG hhi
  rw [← ht] at HSE hhi
  have i1 : ¬ (n : Int) < 13 := by omega
  have i2 : ¬ (n : Int) > 1048576 := by omega
  have i3 : (0 : Int) ≤ (k : Int) := by omega
  have w1 : IntKind.i64.wrap ((s : Int) + (t : Int)) = (s : Int) + (t : Int) := IntWalk.i64_in _ (by omega)
  have w2 : IntKind.i64.wrap ((a : Int) + (c.seg : Int)) = (a : Int) + (c.seg : Int) := IntWalk.i64_in _ (by omega)
  have k1 : decide ((s : Int) + (t : Int) ≤ (a : Int) + (c.seg : Int)) = true := decide_eq_true (by omega)
  have k2 : s + t ≤ a + c.seg := hhi
  have HB : Hid (∀ o o', Below w.heap.size w ((w.alloc o).alloc o')) := fun o o' => ((Below.refl _ _).alloc (Nat.le_refl _) o).alloc (by simp) o'
  clear h r hroom h0 h3 h2 hkl hs ha ht hhi hnn
  unfold Cfg.val at *
  unfold addrV at *
  go_enter Try.func36, Try.ntmps36
  go_upto_region 1 with (fail)
  refine wp_forget (fun W => (BoxC W w.heap.size c ∧ W.cell? ⟨w.heap.size + 1, 0, none⟩ = some (.int .i64 (s : Nat)) ∧ W.cell? ⟨w.heap.size + 1, 1, none⟩ = some (.int .i64 (n : Nat))) ∧ Below w.heap.size w W ∧ w.heap.size + 1 < W.heap.size) ⟨?made, HB.out _ _, by simp⟩ ?_
  case made =>
    have b1 := heap_alloc2_old w (.cells c.cells 23) (.cells #[.int .i64 (s : Nat), .int .i64 (n : Nat)] 30)
    have b2 := heap_alloc2_new w (.cells c.cells 23) (.cells #[.int .i64 (s : Nat), .int .i64 (n : Nat)] 30)
    unfold Cfg.cells at b1 b2
    refine ⟨?_, by rw [cell_of_row _ _ _ _ _ _ b2]; rfl, by rw [cell_of_row _ _ _ _ _ _ b2]; rfl⟩
    unfold BoxC
    refine ⟨?_, ?_, ?_, ?_, ?_, ?_, ?_, ?_, ?_⟩ <;> (rw [cell_of_row _ _ _ _ _ _ b1]; rfl)
  clear HB
  rintro W ⟨⟨hbx, hs1, hn1⟩, hbW, hl⟩
  have HBW := Lib.hid hbW
  have HBX := Lib.hid hbx
  obtain ⟨q0, q1, q2, q3, q4, q5, q6, q7, q8⟩ := hbx
  clear hbW
  go_wp2_with fail
  refine (HO.out _).mono ?_
  rintro _ W1 ⟨rfl, hb1⟩
  have HB1 := Lib.hid (below_upto HBW.out hb1 (Nat.le_refl _))
  have HX1 := Lib.hid (HBX.out.up (w' := W1) fun j => hb1.cell (p := ⟨w.heap.size, j, none⟩) (by show w.heap.size < _; omega))
  have hs1' := (hb1.cell (p := ⟨w.heap.size + 1, 0, none⟩) hl).trans hs1
  have hn1' := (hb1.cell (p := ⟨w.heap.size + 1, 1, none⟩) hl).trans hn1
  have hl1 : w.heap.size + 1 < W1.heap.size := Nat.lt_of_lt_of_le hl hb1.size
  clear q0 q1 q2 q3 q4 q5 q6 q7 q8 hb1 hs1 hn1 hl HBW HBX HO
  obtain ⟨q0, q1, q2, q3, q4, q5, q6, q7, q8⟩ := HX1.out
  go_wp2_with fail
  refine (HSG.out _).mono ?_
  rintro _ W2 ⟨rfl, hb2⟩
  have HB2 := Lib.hid (below_upto HB1.out hb2 (Nat.le_refl _))
  have HX2 := Lib.hid (HX1.out.up (w' := W2) fun j => hb2.cell (p := ⟨w.heap.size, j, none⟩) (by show w.heap.size < _; omega))
  have hs2 := (hb2.cell (p := ⟨w.heap.size + 1, 0, none⟩) hl1).trans hs1'
  have hn2 := (hb2.cell (p := ⟨w.heap.size + 1, 1, none⟩) hl1).trans hn1'
  have hl2 : w.heap.size + 1 < W2.heap.size := Nat.lt_of_lt_of_le hl1 hb2.size
  have hl3 : w.heap.size < W2.heap.size := by omega
  clear q0 q1 q2 q3 q4 q5 q6 q7 q8 hb2 hs1' hn1' hl1 HB1 HX1 HSG
  obtain ⟨q0, q1, q2, q3, q4, q5, q6, q7, q8⟩ := HX2.out
  go_upto_region 5 with (fail)
  refine wp_region_up (by kernel_rfl) (by kernel_rfl) ?_
  repeat (go_big_quiet_step (first | (go_at_call 44; exact Calls.up_of (HSE.out _))))
  refine wpQuiet_nil ?_
  rintro _ ⟨⟨w1, hb1⟩, rfl⟩
  have HB3 := Lib.hid (below_upto HB2.out hb1 (Nat.le_refl _))
  clear hb1 HB2
  go_wp2
  go_ret
  exact ⟨rfl, HB3.out⟩
end Go.Proofs.Ytlmgihnnphmmhaa
