/- BlobsSmall, walked. -/
import Derived.Test.YtlmgihnnphmmhaaSbZ
namespace Go.Proofs.Ytlmgihnnphmmhaa
open Go.RowKit
set_option linter.unusedVariables false
set_option linter.unusedSimpArgs false

set_option maxRecDepth 100000 in
set_option maxHeartbeats 2000000 in
theorem small_no (w : World) {a0 a1 a2 a3 a4 a5 a6 a7 a8 : Int} (h : ¬ FitsP a0 a1 a2 a3 a4 a5 a6 a7 a8) (u v : Value) :
    Calls Try.prog 3 #[cfgI a0 a1 a2 a3 a4 a5 a6 a7 a8, u, v] w fun e w' => e = .returned (.bool true) ∧ Below w.heap.size w w' := by
  have HK : Hid (∀ w', Calls Try.prog 10 #[] w' fun e w'' => e = .returned (.bool true) ∧ Below w'.heap.size w' w'') := fun w' => known9_any w'
  have HF : Hid (∀ w', Calls Try.prog 11 #[cfgI a0 a1 a2 a3 a4 a5 a6 a7 a8] w' fun e w'' => e = .returned (.bool false) ∧ Below w'.heap.size w' w'') := fun w' => fits_false w' a0 a1 a2 a3 a4 a5 a6 a7 a8 h
  have HMD := Lib.hid (BoxI.made w a0 a1 a2 a3 a4 a5 a6 a7 a8)
  have HB : Hid (Below w.heap.size w (w.alloc (.cells #[.int .i64 a0, .int .i64 a1, .int .i64 a2, .int .i64 a3, .int .i64 a4, .int .i64 a5, .int .i64 a6, .int .i64 a7, .int .i64 a8] 23))) := (Below.refl _ _).alloc (Nat.le_refl _) _
  clear h
  unfold cfgI at *
  go_enter Try.func3, Try.ntmps3
  go_upto_region 1 with (fail)
  refine wp_forget (fun W => BoxI W w.heap.size a0 a1 a2 a3 a4 a5 a6 a7 a8 ∧ Below w.heap.size w W ∧ w.heap.size < W.heap.size) ⟨HMD.out, HB.out, by simp⟩ ?_
  clear HMD HB
  rintro W ⟨⟨q0, q1, q2, q3, q4, q5, q6, q7, q8⟩, hbW, lW⟩
  have HBW := Lib.hid hbW
  clear hbW
  refine wp_upW (W := W) fun g => ?_
  go_wp2_with fail
  refine calls_upW (HK.out _) fun g => ?_
  go_wp2_with fail
  refine calls_upW (HF.out _) fun g => ?_
  have HG : Hid (Below w.heap.size w g.world) := below_upto HBW.out g.h (Nat.le_refl _)
  go_wp2
  go_ret
  exact ⟨rfl, HG.out⟩
set_option maxRecDepth 100000 in
set_option maxHeartbeats 2000000 in
theorem small_range (w : World) {c : Cfg} (hok : c.Ok) (hfs : c.sectors ≤ 3000) (hfz : c.z ≤ 512) (u : Value) {nn : Int} (hn : nn < 8 ∨ 4096 < nn) :
    Calls Try.prog 3 #[c.val, u, .int .i64 nn] w fun e w' => e = .returned (.bool true) ∧ Below w.heap.size w w' := by
  have HK : Hid (∀ w', Calls Try.prog 10 #[] w' fun e w'' => e = .returned (.bool true) ∧ Below w'.heap.size w' w'') := fun w' => known9_any w'
  have HF : Hid (∀ w', Calls Try.prog 11 #[c.val] w' fun e w'' => e = .returned (.bool true) ∧ Below w'.heap.size w' w'') := fun w' => fits_true w' hok hfs hfz
  have HMD := Lib.hid (BoxC.made w c)
  have HB : Hid (Below w.heap.size w (w.alloc (.cells c.cells 23))) := (Below.refl _ _).alloc (Nat.le_refl _) _
  clear hok hfs hfz
  unfold Cfg.val at HF ⊢
  unfold Cfg.cells at HMD HB
  go_enter Try.func3, Try.ntmps3
  go_upto_region 1 with (fail)
  refine wp_forget (fun W => BoxC W w.heap.size c ∧ Below w.heap.size w W ∧ w.heap.size < W.heap.size) ⟨HMD.out, HB.out, by simp⟩ ?_
  clear HMD HB
  rintro W ⟨⟨q0, q1, q2, q3, q4, q5, q6, q7, q8⟩, hbW, lW⟩
  have HBW := Lib.hid hbW
  clear hbW
  refine wp_upW (W := W) fun g => ?_
  go_wp2_with fail
  refine calls_upW (HK.out _) fun g => ?_
  go_wp2_with fail
  refine calls_upW (HF.out _) fun g => ?_
  have HG : Hid (Below w.heap.size w g.world) := below_upto HBW.out g.h (Nat.le_refl _)
  by_cases h8 : nn < 8
  · clear hn
    go_wp2
    go_ret
    exact ⟨rfl, HG.out⟩
  · have h9 : 4096 < nn := by omega
    clear hn
    go_wp2
    go_ret
    exact ⟨rfl, HG.out⟩
/-- The bytes after i stores. -/
structure FillAt (w3 wr : World) (G n i x : Nat) : Prop where
  cl : ∀ k, k < n → wr.cell? ⟨G, k, none⟩ = some (.int .u8 ((if k < i then x else 0 : Nat) : Int))
  fz : ∀ k, wr.frozen? ⟨G, k, none⟩ = false
  off : Off (fun g => g = G) w3 wr
theorem FillAt.start (w : World) (n x : Nat) : FillAt (w.alloc (.cells (madeCells #[.int .u8 0] n) 5)) (w.alloc (.cells (madeCells #[.int .u8 0] n) 5)) w.heap.size n 0 x := by
  have b1 := heap_alloc_new w (.cells (madeCells #[.int .u8 0] n) 5)
  refine ⟨fun k hk => ?_, fun k => frozen_of_row _ _ _ _ _ b1, Off.refl _ _⟩
  rw [cell_of_row _ _ _ _ _ _ b1, made_at _ _ _ hk, if_neg (by omega)]
  simp [Nat.mod_one]
theorem FillAt.step {w3 wr : World} {G n i x : Nat} (h : FillAt w3 wr G n i x) (hi : i < n) : FillAt w3 (wr.setCell ⟨G, i, none⟩ (.int .u8 (x : Nat))) G n (i + 1) x := by
  refine ⟨fun k hk => ?_, fun k => by rw [World.frozen?_setCell]; exact h.fz k, h.off.setCell (p := ⟨G, i, none⟩) rfl _⟩
  by_cases hki : k = i
  · subst hki
    rw [World.cell?_setCell_same _ _ _ (h.cl k hk), if_pos (by omega)]
  · rw [World.cell?_setCell_other _ _ _ _ (fun e => hki (by injection e with e1 e2; exact e2.symm)), h.cl k hk]
    by_cases h1 : k < i
    · rw [if_pos h1, if_pos (by omega)]
    · rw [if_neg h1, if_neg (by omega)]
theorem FillAt.sby {w3 wr : World} {G n x : Nat} (h : FillAt w3 wr G n n x) (hx : x < 256) (hG : G < wr.heap.size) : SBy wr (some ⟨G, 0, none⟩) n (List.replicate n (b8 x)) := by
  refine ⟨by simp, fun hp => ⟨G, 0, rfl, hG, fun k hk => ?_⟩⟩
  rw [Nat.zero_add, h.cl k hk, if_pos hk, at8_get (by simpa using hk)]
  simp [b8_lt hx]
set_option maxRecDepth 100000 in
set_option maxHeartbeats 8000000 in
theorem small_yes (w : World) {c : Cfg} (hok : c.Ok) (hfs : c.sectors ≤ 3000) (hfz : c.z ≤ 512) {x n : Nat} (hx : x < 256) (hn : 8 ≤ n ∧ n ≤ 4096) :
    Calls Try.prog 3 #[c.val, .int .u8 (x : Nat), .int .i64 (n : Nat)] w fun e w' => e = .returned (.bool true) ∧ Below w.heap.size w w' := by
  have HK : Hid (∀ w', Calls Try.prog 10 #[] w' fun e w'' => e = .returned (.bool true) ∧ Below w'.heap.size w' w'') := fun w' => known9_any w'
  have HF : Hid (∀ w', Calls Try.prog 11 #[c.val] w' fun e w'' => e = .returned (.bool true) ∧ Below w'.heap.size w' w'') := fun w' => fits_true w' hok hfs hfz
  have HBG : Hid (∀ w', Calls Try.prog 12 #[c.val] w' (BgPost (fun _ => false) c w')) := fun w' => begun_any w' hok
  have HOK := Lib.hid hok
  have HMK := Lib.hid (run_make_bytes n (by omega))
  have HMD := Lib.hid (BoxC.made w c)
  have HB : Hid (Below w.heap.size w (w.alloc (.cells c.cells 23))) := (Below.refl _ _).alloc (Nat.le_refl _) _
  have hz1 := hok.h1
  have hsg := hok.h3
  clear hok
  unfold Cfg.val at HF HBG ⊢
  unfold Cfg.cells at HMD HB
  have n1 : ¬ (n : Int) < 8 := by omega
  have n2 : ¬ (n : Int) > 4096 := by omega
  have n1' : ¬ n < 8 := by omega
  have n2' : ¬ 4096 < n := by omega
  go_enter Try.func3, Try.ntmps3
  go_upto_region 1 with (fail)
  refine wp_forget (fun W => BoxC W w.heap.size c ∧ Below w.heap.size w W ∧ w.heap.size < W.heap.size) ⟨HMD.out, HB.out, by simp⟩ ?_
  clear HMD HB
  rintro W ⟨⟨q0, q1, q2, q3, q4, q5, q6, q7, q8⟩, hbW, lW⟩
  have HBW := Lib.hid hbW
  clear hbW
  refine wp_upW (W := W) fun g => ?_
  go_wp2_with fail
  refine calls_upW (HK.out _) fun g => ?_
  go_wp2_with fail
  refine calls_upW (HF.out _) fun g => ?_
  go_wp2_with fail
  refine (HBG.out _).mono ?_
  rintro _ w1 ⟨Wb, rfl, D, P, T, M, O, vA, vL, hm, hi⟩
  have HM := Lib.hid hm
  have HI := Lib.hid hi
  have HB0 : Hid (Below w.heap.size w g.world) := below_upto HBW.out g.h (Nat.le_refl _)
  have hlg : w.heap.size < g.world.heap.size := Nat.lt_of_lt_of_le lW g.size
  have HBX : Hid (BoxC g.world w.heap.size c) := (show BoxC W w.heap.size c from ⟨q0, q1, q2, q3, q4, q5, q6, q7, q8⟩).up fun j => g.cell (b := w.heap.size) (o := j) lW
  obtain ⟨V, hV⟩ : ∃ V, V = g.world := ⟨_, rfl⟩
  rw [← hV] at HM HB0 hlg HBX
  clear hm hi q0 q1 q2 q3 q4 q5 q6 q7 q8 HBW HBG hV g HK HF
  have HFS := Lib.hid (FillAt.start w1 n x)
  have hmk := HMK.out
  go_wp2_with fail
  clear hmk
  refine wp_forget (fun W3 => W3 = (w1.alloc (.cells (madeCells #[.int .u8 0] n) 5))) rfl ?_
  rintro W3 hW3
  rw [← hW3] at HFS
  have hmw : WoM V W3 Wb D P T M O vA vL (wo0 c fun _ => false) := by rw [hW3]; exact HM.out.up ((Below.refl _ _).alloc (Nat.le_refl _) _)
  have HM3 := Lib.hid hmw
  have hG1 : w1.heap.size < W3.heap.size := by rw [hW3]; simp
  have HG0 := Lib.hid HM.out.lts
  have HG1 := Lib.hid HM.out.st.lts
  have HGB := Lib.hid HM.out.bel.size
  obtain ⟨G, hGe⟩ : ∃ G, G = w1.heap.size := ⟨_, rfl⟩
  rw [← hGe] at HFS hG1 HG0 HG1 HGB ⊢
  clear hW3 hmw HMK HM hGe w1
  go_loopw [9] (fun i wr => ∃ j : Nat, j ≤ n ∧ i = .int .i64 (j : Nat) ∧ FillAt W3 wr G n j x) (fun i _ => n - (intOf i).toNat)
  case atStart => exact ⟨0, Nat.zero_le _, rfl, HFS.out⟩
  case round =>
    obtain ⟨j, hj, rfl, hfl⟩ := hrel
    clear HFS
    have HFL := Lib.hid hfl
    by_cases hlt : j < n
    · have k0 := hfl.cl j hlt
      have z0 := hfl.fz j
      have HF2 := Lib.hid (hfl.step hlt)
      have i1 : (j : Int) < (n : Int) := by omega
      clear hfl
      go_wp2
      go_roundw
      case rel => exact ⟨j + 1, by omega, by go_num, HF2.out⟩
      case measure => simp [intOf]; omega
    · obtain rfl : j = n := by omega
      have hje : ¬ (j : Int) < (j : Int) := by omega
      obtain ⟨g1, g2, g3, g4⟩ := HG1.out
      have hmr : WoM V wr Wb D P T M O vA vL (wo0 c fun _ => false) := by
        have ho := hfl.off
        have h3 := HM3.out
        have nO : ¬ O G := fun e => by have := (g4 _ e).2; omega
        have l1 := HG0.out.1
        exact ⟨h3.bx.up fun j => ho.cell (p := ⟨Wb, j, none⟩) h3.lts.1 (by show ¬ Wb = G; omega), (ho.cell (p := ⟨Wb, 9, none⟩) h3.lts.1 (by show ¬ Wb = G; omega)).trans h3.c9, (ho.cell (p := ⟨Wb, 10, none⟩) h3.lts.1 (by show ¬ Wb = G; omega)).trans h3.c10, (ho.cell (p := ⟨Wb, 11, none⟩) h3.lts.1 (by show ¬ Wb = G; omega)).trans h3.c11, (ho.cell (p := ⟨Wb, 12, none⟩) h3.lts.1 (by show ¬ Wb = G; omega)).trans h3.c12,
          fun j => (ho.frozen (p := ⟨Wb, j, none⟩) h3.lts.1 (by show ¬ Wb = G; omega)).trans (h3.zf j), h3.st.off ho (by show ¬ P = G; omega) (by show ¬ T = G; omega) (by show ¬ M = G; omega) (fun g hg e => nO (e ▸ hg)), ownsRow_off h3.rA ho (fun g hg e => by have := (HG0.out.2.1 g hg).2; omega), ownsRow_off h3.rL ho (fun g hg e => by have := (HG0.out.2.2 g hg).2; omega), h3.bin, h3.bel.trans (ho.below (fun k hk => by rw [hk]; exact HGB.out) h3.bel.size), h3.lo, h3.dW, h3.dA, h3.dL, h3.dAL⟩
      have lG : G < wr.heap.size := Nat.lt_of_lt_of_le hG1 hfl.off.size
      have HSY := Lib.hid (hfl.sby hx lG)
      have HMR := Lib.hid hmr
      have hbr : Below w.heap.size w wr := below_upto HB0.out hmr.bel (Nat.le_refl _)
      have hbx : BoxC wr w.heap.size c := HBX.out.up fun j => hmr.bel.cell (p := ⟨w.heap.size, j, none⟩) hlg
      have HBXR := Lib.hid hbx
      have c10 := hmr.c10
      have lwr : w.heap.size < wr.heap.size := Nat.lt_of_lt_of_le hlg hmr.bel.size
      obtain ⟨b, hb⟩ : ∃ b, b = List.replicate j (b8 x) := ⟨_, rfl⟩
      have hrep := packB_rep (b8 x) hn.1 hn.2
      rw [← hb] at HSY hrep
      have hbl : b.length = j := HSY.out.len
      have hN := putF_length b
      have hs1 : secs c.z (putF b).length = 1 := by
        have h1 : secs c.z (putF b).length ≤ 1 := secs_le (by omega) (by omega)
        have h2 := secs_pos (z := c.z) (n := (putF b).length) (by omega) (by omega)
        omega
      have HS1 := Lib.hid hs1
      have hsl : secs (wo0 c fun _ => false).s.c.z (putF b).length ≤ (wo0 c fun _ => false).s.c.seg := by show secs c.z (putF b).length ≤ c.seg; omega
      have HPT : Hid (Calls Try.prog 13 #[.pointer (some ⟨P, 0, none⟩), .slice (some ⟨G, 0, none⟩) j j] wr (PtPost V.heap.size wr P D T M O (wo0 c fun _ => false).s b 0 0)) :=
        stPutOk_any hmr.st HSY.out (Nat.le_refl _) (by omega) hsl (room0 c HOK.out _) rfl (Nat.zero_le _)
      have hi2 := (HI.out.put (b := ⟨some ⟨G, 0, none⟩, j, j, b⟩) hmr.st.ok (k := 0) (u := 0) (room0 c HOK.out _) (fun k e he => ⟨(hmr.st.tb.ok k e he).1, (hmr.st.tb.ok k e he).2.1⟩) (by show b.length ≤ 65536; omega) hsl).1
      have HGN : Hid (¬ (G = P ∨ G = M ∨ O G)) := fun e => by
        rcases e with e | e | e
        · omega
        · omega
        · have := (g4 _ e).2; omega
      have HWN : Hid (¬ (w.heap.size = P ∨ w.heap.size = M ∨ O w.heap.size)) := fun e => by
        have k1 := hmr.st.lo
        have k2 := hmr.st.tb.lo.2
        rcases e with e | e | e
        · omega
        · omega
        · have := (hmr.st.lts.2.2.2 _ e).1; omega
      have HB00 := Lib.hid HB0.out
      have HVW := Lib.hid hlg
      unfold PtPost at HPT
      obtain ⟨a, ha⟩ : ∃ a, a = 2 + (wo0 c fun _ => false).s.c.journal + 0 * (wo0 c fun _ => false).s.c.seg + 0 := ⟨_, rfl⟩
      obtain ⟨N, hNe⟩ : ∃ N, N = (putF b).length := ⟨_, rfl⟩
      simp only at hi2
      rw [← ha] at HPT hi2
      obtain ⟨s', hs'⟩ : ∃ s', s' = (wo0 c fun _ => false).s.put ((wo0 c fun _ => false).s.d.putN a (padF (wo0 c fun _ => false).s.c.z (putF b)) (secs (wo0 c fun _ => false).s.c.z (putF b).length)) 0 0 (secs (wo0 c fun _ => false).s.c.z (putF b).length) := ⟨_, rfl⟩
      have hsc : s'.c = c := by rw [hs']; rfl
      have HSC := Lib.hid hsc
      rw [← hs', ← hNe] at HPT hi2
      have HI2 := Lib.hid hi2
      have HNE := Lib.hid hNe
      rw [← hNe] at hs1 hN
      have hNl : N ≤ 19 := by omega
      have HS1' := Lib.hid hs1
      have HBL := Lib.hid hbl
      unfold addrV at HPT
      clear hi2 hs' hsc hNe hs1 HS1 hsl hrep hbl hmr hbx hfl HI HB0 HBX HFL HM3 HG0 HG1 HGB hlg g1 g2 g3 g4 hN ha hb
      go_wp2_with fail
      refine HPT.out.mono ?_
      rintro _ V1 ⟨rfl, O', hst, hO', hoff⟩
      have hm1 : WoM V V1 Wb D P T M O' vA vL ⟨s', [], []⟩ := HMR.out.putted HSC.out hst hO' hoff
      have HM1 := Lib.hid hm1
      have HSY1 : Hid (SBy V1 (some ⟨G, 0, none⟩) j b) := HSY.out.off hoff (fun k o e => by cases e; exact HGN.out)
      have HBX1 : Hid (BoxC V1 w.heap.size c) := HBXR.out.up fun j => hoff.cell (p := ⟨w.heap.size, j, none⟩) lwr HWN.out
      have HWL : Hid (w.heap.size < V1.heap.size) := Nat.lt_of_lt_of_le lwr hoff.size
      have HWB : Hid (Below w.heap.size w V1) := below_upto HB00.out hm1.bel (Nat.le_refl _)
      have HGO : Hid (∀ g, O' g → g = G → False) := fun g hg e => by
        rcases hO' g hg with e2 | e2
        · exact HGN.out (.inr (.inr (e ▸ e2)))
        · omega
      clear hst hO' hoff hm1 HPT c10
      go_upto_region 14 with (fail)
      refine wp_forget (fun Y => WoM V Y Wb D P T M O' vA vL ⟨s', [], []⟩ ∧ (Y.cell? ⟨V1.heap.size, 0, none⟩ = some (.int .i64 (a : Nat)) ∧ Y.cell? ⟨V1.heap.size, 1, none⟩ = some (.int .i64 (N : Nat)) ∧ V1.heap.size < Y.heap.size) ∧ SBy Y (some ⟨G, 0, none⟩) j b ∧ BoxC Y w.heap.size c ∧ w.heap.size < Y.heap.size ∧ Below w.heap.size w Y)
        ⟨HM1.out.up ((Below.refl _ _).alloc (Nat.le_refl _) _), ⟨(addr_made V1 a N).1, (addr_made V1 a N).2, by simp⟩, HSY1.out.alloc _, HBX1.out.up fun j => ((Below.refl V1.heap.size V1).alloc (Nat.le_refl _) _).cell (p := ⟨w.heap.size, j, none⟩) (by have h5 := HWL.out; omega), by have h5 := HWL.out; simp; omega, HWB.out.alloc HWB.out.size _⟩ ?_
      have hab1 := HM1.out.st.lts.2.2.2
      obtain ⟨ab, hab⟩ : ∃ ab, ab = V1.heap.size := ⟨_, rfl⟩
      have hwab : w.heap.size < ab := by have h5 := HWL.out; omega
      rw [← hab] at hab1 ⊢
      clear HM1 hab HSY1 HBX1 HWL HWB HSY HMR hbr lwr HBXR lG HGN
      rintro Y ⟨hmy, ⟨t0, t1, lab⟩, hsy, hby, lwy, hbey⟩
      have HMY := Lib.hid hmy
      have HSYY := Lib.hid hsy
      have HBYY := Lib.hid hby
      have HBEY := Lib.hid hbey
      have c10 := hmy.c10
      have lWb := hmy.lts.1
      clear hmy hsy hby hbey
      refine wp_region_up_tail 5 (by kernel_rfl) (by kernel_rfl) (by kernel_rfl) ?_
      simp only [List.take_succ_cons, List.take_zero, List.drop_succ_cons, List.drop_zero]
      repeat (go_big_quiet_step (fail))
      refine wpQuiet_nil ?_
      rintro _ ⟨h1, rfl⟩
      have HMG : Hid (WoM V h1.world Wb D P T M O' vA vL ⟨s', [], []⟩) := HMY.out.up h1.h
      obtain ⟨k, hpl⟩ := HI2.out.pl 0 a N ⟨some ⟨G, 0, none⟩, j, j, b⟩ rfl rfl
      have HGE : Hid (Calls Try.prog 14 #[.pointer (some ⟨P, 0, none⟩), .agg #[.int .i64 (a : Nat), .int .i64 (N : Nat)]] h1.world (GtPost V.heap.size h1.world P D T M O' s' (b, 0))) := by
        rw [← hpl.get HMG.out.st.ok (by have := HBL.out; show b.length ≤ 65536; omega)]
        exact stGet_any HMG.out.st hpl.r HI2.out.on
      clear hpl
      go_wp2_with fail
      refine HGE.out.mono ?_
      rintro _ W2 ⟨A', n', c', rfl, ⟨wx, hF, _⟩, hst, hoff⟩
      have nab : ¬ O' ab := fun e => absurd (hab1 ab e).2 (Nat.lt_irrefl ab)
      have nw : ¬ O' w.heap.size := fun e => by
        have h6 := (HMG.out.st.lts.2.2.2 _ e).1
        have h7 := HVW.out
        omega
      have nG : ∀ k o, (some ⟨G, 0, none⟩ : Option Addr) = some ⟨k, o, none⟩ → ¬ O' k := fun k o e hk => by
        cases e
        exact HGO.out G hk rfl
      have t02 := (hoff.cell (p := ⟨ab, 0, none⟩) (Nat.lt_of_lt_of_le lab h1.size) nab).trans ((h1.h.cell (p := ⟨ab, 0, none⟩) lab).trans t0)
      have t12 := (hoff.cell (p := ⟨ab, 1, none⟩) (Nat.lt_of_lt_of_le lab h1.size) nab).trans ((h1.h.cell (p := ⟨ab, 1, none⟩) lab).trans t1)
      have hbx2 : BoxC W2 w.heap.size c := (HBYY.out.up fun j => h1.h.cell (p := ⟨w.heap.size, j, none⟩) lwy).up fun j => hoff.cell (p := ⟨w.heap.size, j, none⟩) (Nat.lt_of_lt_of_le lwy h1.size) nw
      obtain ⟨q0, q1, q2, q3, q4, q5, q6, q7, q8⟩ := hbx2
      have cv1 : (convert 28 9 (.slice A' n' c')).run Try.prog W2 = .ok (.string (strB b)) W2 := hF.sby.str c'
      have cv2 : (convert 28 9 (.slice (some ⟨G, 0, none⟩) j j)).run Try.prog W2 = .ok (.string (strB b)) W2 := ((HSYY.out.up h1.h).off hoff nG).str j
      have HBF : Hid (Below w.heap.size w W2) := by
        have h6 := (HMG.out.read hst hoff).bel
        exact below_upto HB00.out h6 (Nat.le_refl _)
      have HSE : Hid (∀ w', Calls Try.prog 15 #[c.val, addrV a N] w' fun e w'' => e = .returned (.int .i64 1) ∧ Below w'.heap.size w' w'') := fun w' => by
        have := sectors9_any w' HOK.out a N (by omega)
        rw [HS1'.out] at this
        exact this
      unfold Cfg.val addrV at HSE
      have lw2 : w.heap.size < W2.heap.size := Nat.lt_of_lt_of_le (Nat.lt_of_lt_of_le lwy h1.size) hoff.size
      have i29 : (N : Int) ≤ 29 := by omega
      clear hF hst hoff nab nw nG HMG HGE t0 t1 c10
      go_wp2_with fail
      refine (HSE.out _).mono ?_
      rintro _ W3 ⟨rfl, hb3⟩
      have HF : Hid (Below w.heap.size w W3) := below_upto HBF.out hb3 (Nat.le_refl _)
      clear hb3 HSE cv1 cv2
      go_wp2
      go_ret
      exact ⟨rfl, HF.out⟩
end Go.Proofs.Ytlmgihnnphmmhaa
