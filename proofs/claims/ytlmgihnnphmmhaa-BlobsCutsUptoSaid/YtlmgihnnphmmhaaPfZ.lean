/- blobs: Put, when the power is off. -/
import Derived.Test.YtlmgihnnphmmhaaPdZ
import Derived.Test.YtlmgihnnphmmhaaUaZ
namespace Go.Proofs.Ytlmgihnnphmmhaa
open Go.RowKit
set_option linter.unusedVariables false
set_option linter.unusedSimpArgs false

section
variable {B : Nat} {w w' : World} {P D T M : Nat} {O S : Nat → Prop} {s : StS}
set_option maxRecDepth 100000 in
set_option maxHeartbeats 2000000 in
theorem stPutOff_any (h : StAt B w P D T M O s) {A : Option Addr} {n c : Nat} {b : Bytes} (hb : SBy w A n b) (hc : n ≤ c) (hn : n ≤ 65536) (hlong : secs s.c.z (putF b).length ≤ s.c.seg) {k0 u0 : Nat} (hroom : Room s (secs s.c.z (putF b).length) k0 u0) (hof : s.d.off = true) :
    Calls Try.prog 13 #[.pointer (some ⟨P, 0, none⟩), .slice A n c] w (PLong w 8) := by
  have H := Lib.hid h
  have hlb := hb.1
  have hpk := packB_le b
  have HSB := Lib.hid hb
  have HLG := Lib.hid hlong
  have HNR := Lib.hid hroom
  have HOF := Lib.hid hof
  have hsg := h.ok.ok.h3
  obtain ⟨l1, l2, l3, l4⟩ := h.lts
  clear h hb hlong hroom hof
  have a0 := alloc_at w (.agg #[.int .i64 0, .int .i64 0]) 30
  have HB : Hid (∀ o, Below w.heap.size w (w.alloc o)) := fun o => (Below.refl _ _).alloc (Nat.le_refl _) o
  go_enter Try.func13, Try.ntmps13
  go_upto_region 1 with (fail)
  refine wp_forget (fun W => (W.cell? ⟨w.heap.size, 0, none⟩ = some (.int .i64 0) ∧ W.cell? ⟨w.heap.size, 1, none⟩ = some (.int .i64 0) ∧ ∀ j, W.frozen? ⟨w.heap.size, j, none⟩ = false) ∧ Below w.heap.size w W ∧ w.heap.size < W.heap.size) ⟨?made, HB.out _, by simp⟩ ?_
  case made =>
    have b1 := heap_alloc_new w (.cells #[.int .i64 0, .int .i64 0] 30)
    exact ⟨by rw [cell_of_row _ _ _ _ _ _ b1]; rfl, by rw [cell_of_row _ _ _ _ _ _ b1]; rfl, fun j => frozen_of_row _ _ _ _ _ b1⟩
  clear HB a0
  rintro W ⟨⟨r0, r1, rz⟩, hbW, hl⟩
  have HBW := Lib.hid hbW
  have HS1 := Lib.hid (HSB.out.up hbW)
  clear hbW
  go_wp2_with fail
  refine (pack_any W A n c b HS1.out hc (by omega)).mono ?_
  rintro _ w1 ⟨A1, n1, c1, rfl, h1⟩
  have H1 := Lib.hid h1
  have e1 := h1.len
  clear h1 HS1
  go_wp2_with fail
  refine (frame_any w1 1 A1 n1 c1 (packB b) (by omega) H1.out.sby (by omega)).mono ?_
  rintro _ w2 ⟨A2, c2, rfl, h2⟩
  have hW1 := H1.out.bel
  have H2 := Lib.hid (h2.elder hW1)
  have hb2 := H2.out.bel
  have s0 := (hb2.cell (p := ⟨w.heap.size, 0, none⟩) hl).trans r0
  have s1 := (hb2.cell (p := ⟨w.heap.size, 1, none⟩) hl).trans r1
  have sz : ∀ j, w2.frozen? ⟨w.heap.size, j, none⟩ = false := fun j => (hb2.frozen (p := ⟨w.heap.size, j, none⟩) hl).trans (rz j)
  have HB2 := Lib.hid (below_upto HBW.out hb2 (Nat.le_refl _))
  have hl2 : w.heap.size < w2.heap.size := Nat.lt_of_lt_of_le hl hb2.size
  clear h2 hW1 hb2 r0 r1 rz HBW H1
  go_upto_region 3 with (fail)
  have hn1 : n1 = (packB b).length := e1.symm
  have HN1 := Lib.hid hn1
  have c1n : n1 ≤ 65537 := by omega
  clear hn1 e1 hpk hlb
  have HSE : Hid (∀ g : Up w, Calls Try.prog 44 #[s.c.val, .agg #[.int .i64 0, .int .i64 (13 + (n1 : Int))]] g.world fun e w' => e = .returned (.int .i64 (secs s.c.z (13 + n1) : Nat)) ∧ Below g.world.heap.size g.world w') := fun g => by
    have := sectors_any g.world H.out.ok.ok 0 (13 + n1) (by omega) (by omega)
    rwa [addrV, Int.natCast_add] at this
  refine wp_forget (fun V => (V.cell? ⟨w2.heap.size, 0, none⟩ = some (.int .i64 0) ∧ V.cell? ⟨w2.heap.size, 1, none⟩ = some (.int .i64 (13 + (n1 : Int))) ∧ ∀ j, V.frozen? ⟨w2.heap.size, j, none⟩ = false) ∧ Below w2.heap.size w2 V ∧ w2.heap.size < V.heap.size) ⟨?madea, (Below.refl _ _).alloc (Nat.le_refl _) _, by simp⟩ ?_
  case madea =>
    have b1 := heap_alloc_new w2 (.cells #[.int .i64 0, .int .i64 (13 + (n1 : Int))] 30)
    exact ⟨by rw [cell_of_row _ _ _ _ _ _ b1]; rfl, by rw [cell_of_row _ _ _ _ _ _ b1]; rfl, fun j => frozen_of_row _ _ _ _ _ b1⟩
  rintro w3 ⟨⟨t0, t1, tz⟩, hb3, hl3⟩
  have HB3 := Lib.hid (below_upto HB2.out hb3 (Nat.le_refl _))
  have HB3a := Lib.hid hb3
  have u0 := (hb3.cell (p := ⟨w.heap.size, 0, none⟩) hl2).trans s0
  have u1 := (hb3.cell (p := ⟨w.heap.size, 1, none⟩) hl2).trans s1
  have uz : ∀ j, w3.frozen? ⟨w.heap.size, j, none⟩ = false := fun j => (hb3.frozen (p := ⟨w.heap.size, j, none⟩) hl2).trans (sz j)
  have HS2 := Lib.hid (And.intro s0 (And.intro s1 sz))
  clear s0 s1 sz hb3
  have HST := Lib.hid (H.out.up HB3.out)
  obtain ⟨q0, q1, q2, q3, q4, q5, q6, q7, q8⟩ := HST.out.bx
  have HSE3 : Hid (∀ g : Up w3, Calls Try.prog 44 #[.agg #[.int .i64 (s.c.sectors : Nat), .int .i64 (s.c.z : Nat), .int .i64 (s.c.journal : Nat), .int .i64 (s.c.seg : Nat), .int .i64 (s.c.page : Nat), .int .i64 (s.c.frames : Nat), .int .i64 (s.c.procs : Nat), .int .i64 (s.c.regions : Nat), .int .i64 (s.c.pages : Nat)], .agg #[.int .i64 0, .int .i64 (13 + (n1 : Int))]] g.world fun e w' => e = .returned (.int .i64 (secs s.c.z (13 + n1) : Nat)) ∧ Below g.world.heap.size g.world w') := fun g => HSE.out ⟨g.world, below_upto HB3.out g.h (Nat.le_refl _)⟩
  have lP3 : P < w3.heap.size := Nat.lt_of_lt_of_le l1 HB3.out.size
  clear HSE
  refine wp_region_up (by kernel_rfl) (by kernel_rfl) ?_
  repeat (go_big_quiet_step (first | (go_at_call 44; exact Calls.up_of (HSE3.out _))))
  refine wpQuiet_nil ?_
  intro V hV
  obtain ⟨g, hg⟩ := hV
  have hb := g.h
  rw [← hg] at hb
  clear hg
  have HBV := Lib.hid (below_upto HB3.out hb (Nat.le_refl _))
  have HBVa := Lib.hid (below_upto HB3a.out hb (Nat.le_refl _))
  have HPV : Hid (V.cell? ⟨w2.heap.size, 0, none⟩ = some (.int .i64 0) ∧ V.cell? ⟨w2.heap.size, 1, none⟩ = some (.int .i64 (13 + (n1 : Int))) ∧ (∀ j, V.frozen? ⟨w2.heap.size, j, none⟩ = false) ∧ w2.heap.size < V.heap.size) :=
    ⟨(hb.cell (p := ⟨w2.heap.size, 0, none⟩) hl3).trans t0, (hb.cell (p := ⟨w2.heap.size, 1, none⟩) hl3).trans t1, fun j => (hb.frozen (p := ⟨w2.heap.size, j, none⟩) hl3).trans (tz j), Nat.lt_of_lt_of_le hl3 hb.size⟩
  have lw3 : w.heap.size < w3.heap.size := Nat.lt_of_lt_of_le hl2 (by omega)
  have lwV : w.heap.size < V.heap.size := Nat.lt_of_lt_of_le lw3 hb.size
  have v3 := (hb.cell (p := ⟨P, 3, none⟩) lP3).trans q3
  have y0 := (hb.cell (p := ⟨w.heap.size, 0, none⟩) lw3).trans u0
  have y1 := (hb.cell (p := ⟨w.heap.size, 1, none⟩) lw3).trans u1
  have yz : ∀ j, V.frozen? ⟨w.heap.size, j, none⟩ = false := fun j => (hb.frozen (p := ⟨w.heap.size, j, none⟩) lw3).trans (uz j)
  have z0 := yz 0
  have z1 := yz 1
  have hlg : secs s.c.z (13 + n1) ≤ s.c.seg := by have := HLG.out; rwa [putF_length, ← HN1.out] at this
  have hnr := HNR.out
  rw [putF_length, ← HN1.out] at hnr
  clear q0 q1 q2 q3 q4 q5 q6 q7 q8 u0 u1 uz t0 t1 tz HSE3 hb yz
  obtain ⟨x, hx0⟩ : ∃ x, secs s.c.z (13 + n1) = x := ⟨_, rfl⟩
  have HX := Lib.hid hx0
  rw [hx0] at hlg hnr ⊢
  clear hx0
  have HNR2 := Lib.hid hnr
  have k1 : ¬ (s.c.seg : Int) < (x : Int) := by omega
  have k2 : ¬ (1048576 : Int) < 13 + (n1 : Int) := by omega
  have k2' : ¬ 1048576 < 13 + n1 := by omega
  have HSTV := Lib.hid (H.out.up HBV.out)
  have HNX := Lib.hid (stNext_any HSTV.out (n := x) (by omega))
  clear hlg hnr
  go_wp2_with fail
  refine HNX.out.mono ?_
  rintro _ V2 ⟨k, u, er, rfl, hx, hb2⟩
  obtain ⟨rfl, rfl, rfl⟩ := hx.room HNR2.out
  obtain ⟨hk1, hk2⟩ := HNR2.out.lt HSTV.out.ok (fun k e he => (HSTV.out.tb.ok k e he).1) (by omega)
  have HB4 := Lib.hid (below_upto HBV.out hb2 (Nat.le_refl _))
  have x0 := (hb2.cell (p := ⟨w.heap.size, 0, none⟩) lwV).trans y0
  have x1 := (hb2.cell (p := ⟨w.heap.size, 1, none⟩) lwV).trans y1
  have f0 : V2.frozen? ⟨w.heap.size, 0, none⟩ = false := (hb2.frozen (p := ⟨w.heap.size, 0, none⟩) lwV).trans z0
  have f1 : V2.frozen? ⟨w.heap.size, 1, none⟩ = false := (hb2.frozen (p := ⟨w.heap.size, 1, none⟩) lwV).trans z1
  obtain ⟨hp0, hp1, hpz, hpl⟩ := HPV.out
  have p0 := (hb2.cell (p := ⟨w2.heap.size, 0, none⟩) hpl).trans hp0
  have p1 := (hb2.cell (p := ⟨w2.heap.size, 1, none⟩) hpl).trans hp1
  have pz : V2.frozen? ⟨w2.heap.size, 0, none⟩ = false := (hb2.frozen (p := ⟨w2.heap.size, 0, none⟩) hpl).trans (hpz 0)
  have HF2 := Lib.hid ((H2.out.up HBVa.out).up hb2)
  have HST2 := Lib.hid (HSTV.out.up hb2)
  have HSG := Lib.hid (fun w' => segment_any w' H.out.ok.ok hk1)
  have lp2 : w2.heap.size < V2.heap.size := Nat.lt_of_lt_of_le hpl hb2.size
  have lw2 : w.heap.size < V2.heap.size := Nat.lt_of_lt_of_le lwV hb2.size
  obtain ⟨q0, q1, q2, q3, q4, q5, q6, q7, q8⟩ := HST2.out.bx
  have HBVb := Lib.hid (below_upto HBVa.out hb2 (Nat.le_refl _))
  clear hb2 y0 y1 z0 z1 hp0 hp1 hpz hpl HPV HBVa HSTV HNX HBV hx v3 HST HB3 HB3a
  have hroom2 := H.out.ok.ok.room
  have hsl := H.out.ok.ok.h0
  have hzl := H.out.ok.ok.h1
  have hkl : k0 * s.c.seg + s.c.seg ≤ s.c.segs * s.c.seg := by have h4 : (k0 + 1) * s.c.seg ≤ s.c.segs * s.c.seg := Nat.mul_le_mul_right _ (by omega); rw [Nat.add_mul, Nat.one_mul] at h4; exact h4
  obtain ⟨a0, ha0⟩ : ∃ a, a = 2 + s.c.journal + k0 * s.c.seg := ⟨_, rfl⟩
  have ha1 : a0 + s.c.seg ≤ 65536 := by omega
  rw [← ha0] at HSG
  have HA0 := Lib.hid ha0
  have HSL : Hid (a0 + s.c.seg ≤ s.c.sectors) := by show a0 + s.c.seg ≤ s.c.sectors; omega
  clear ha0 hkl hroom2 hsl
  unfold Cfg.val at HSG
  go_upto_region 9 with (fail)
  go_wp2_with fail
  refine (HSG.out V2).mono ?_
  rintro _ V3 ⟨rfl, hb3⟩
  have HB5 := Lib.hid (below_upto HB4.out hb3 (Nat.le_refl _))
  have hV2 := HB4.out.size
  have lP2 : P < V2.heap.size := Nat.lt_of_lt_of_le l1 hV2
  have t0 := (hb3.cell (p := ⟨w2.heap.size, 0, none⟩) lp2).trans p0
  have t1 := (hb3.cell (p := ⟨w2.heap.size, 1, none⟩) lp2).trans p1
  have tz := (hb3.frozen (p := ⟨w2.heap.size, 0, none⟩) lp2).trans pz
  have r0 := (hb3.cell (p := ⟨w.heap.size, 0, none⟩) lw2).trans x0
  have r1 := (hb3.cell (p := ⟨w.heap.size, 1, none⟩) lw2).trans x1
  have rf0 := (hb3.frozen (p := ⟨w.heap.size, 0, none⟩) lw2).trans f0
  have rf1 := (hb3.frozen (p := ⟨w.heap.size, 1, none⟩) lw2).trans f1
  have HF3 := Lib.hid (HF2.out.up hb3)
  have HST3 := Lib.hid (HST2.out.up hb3)
  have lp3 : w2.heap.size < V3.heap.size := Nat.lt_of_lt_of_le lp2 hb3.size
  have HBVc := Lib.hid (below_upto HBVb.out hb3 (Nat.le_refl _))
  clear HBVb hb3 p0 p1 pz x0 x1 f0 f1 q0 q1 q2 q3 q4 q5 q6 q7 q8 HF2 HST2 HSG
  have i1 : IntKind.i64.wrap ((a0 : Int) + (u : Int)) = (a0 : Int) + (u : Int) := IntWalk.i64_in _ (by omega)
  go_upto_region 11 with (fail)
  have HBd := Lib.hid (HBVc.out.setCell (p := ⟨w2.heap.size, 0, none⟩) (Nat.le_refl _) (.int .i64 ((a0 : Int) + (u : Int))))
  have n1a : (⟨w2.heap.size, 1, none⟩ : Addr) ≠ ⟨w2.heap.size, 0, none⟩ := fun e => by injection e with e1 e2; omega
  refine wp_forget (fun V => Below w2.heap.size w2 V ∧ V.cell? ⟨w2.heap.size, 0, none⟩ = some (.int .i64 ((a0 : Int) + (u : Int))) ∧ V.cell? ⟨w2.heap.size, 1, none⟩ = some (.int .i64 (13 + (n1 : Int))) ∧ w2.heap.size < V.heap.size) ⟨HBd.out, World.cell?_setCell_same _ _ _ t0, (World.cell?_setCell_other _ _ _ _ n1a.symm).trans t1, by simpa using lp3⟩ ?_
  clear HBd HBVc t0 t1 tz r0 r1 rf0 rf1 HF3 HST3 lp3 lp2 lw2 lP2 HB5 HB4 hV2 n1a
  rintro V4 ⟨hb4, t0, t1, lp4⟩
  have HB4 := Lib.hid hb4
  have HF4 := Lib.hid (H2.out.up hb4)
  have HST4 := Lib.hid (H.out.up (below_upto HB2.out hb4 (Nat.le_refl _)))
  have q1 := HST4.out.bx.2.1
  have hge : 13 + n1 ≤ x * s.c.z := by have := secs_ge (z := s.c.z) (n := 13 + n1) (by omega); rwa [HX.out] at this
  have hle : x * s.c.z ≤ 4096 * 4096 := Nat.mul_le_mul (by omega) (by omega)
  obtain ⟨m, hm⟩ : ∃ m, 13 + n1 + m = x * s.c.z := ⟨x * s.c.z - (13 + n1), by omega⟩
  have hm2 : (x : Int) * (s.c.z : Int) = 13 + (n1 : Int) + (m : Int) := by rw [← Int.natCast_mul, ← hm]; omega
  have i2 : IntKind.i64.wrap (13 + (n1 : Int) + (m : Int)) = 13 + (n1 : Int) + (m : Int) := IntWalk.i64_in _ (by omega)
  have i3 : 13 + (n1 : Int) + (m : Int) - (13 + (n1 : Int)) = (m : Int) := by omega
  have i4 : IntKind.i64.wrap (m : Int) = (m : Int) := IntWalk.i64_in _ (by omega)
  have HM := Lib.hid hm
  have hlf : (frameB (b8 1) (packB b)).length = 13 + n1 := by rw [frameB_length, HN1.out]
  have HNE : Hid (frameB (b8 1) (packB b) ≠ []) := fun e => by rw [e] at hlf; have h0 : (0 : Nat) = 13 + n1 := hlf; omega
  have HLN : Hid ((frameB (b8 1) (packB b)).length + m ≤ 1073741824) := by show _ ≤ _; omega
  have HLM : Hid ((frameB (b8 1) (packB b)).length + m = x * s.c.z) := by show _ = _; omega
  clear hb4 hge hle hm hlf
  go_wp2_with (at_builtin; go_must (refine wpList_appZ rfl (.tmp 69) (.tmp 79) rfl W (.slice A2 (13 + n1) c2) (frameB (b8 1) (packB b)) rfl HF4.out HNE.out m rfl HLN.out (x * s.c.z) HLM.out ?_); intro A5 c5 w5 h5 g5)
  have hzp : 0 < x * s.c.z := by have := HM.out; omega
  obtain ⟨gb, hgb, hg1, hg2⟩ : ∃ gb, A5 = some ⟨gb, 0, none⟩ ∧ W.heap.size ≤ gb ∧ gb < w5.heap.size := by
    obtain ⟨A', c', he, _, _, h3, h4⟩ := h5.own.form
    have hl5 := h5.len
    obtain ⟨b', o', hb', _, _⟩ := h5.sby.2 hzp
    injection he with e1 e2 e3
    obtain ⟨k1, k2, k3⟩ := h4 b' o' (by rw [← e1]; exact hb')
    exact ⟨b', by rw [hb', k3], k1, k2⟩
  subst hgb
  obtain ⟨F, hF⟩ : ∃ F, F = frameB (b8 1) (packB b) ++ zeros m := ⟨_, rfl⟩
  have hFl : F.length = x * s.c.z := by rw [hF]; exact h5.len
  rw [← hF] at h5
  have HFD := Lib.hid hF
  have HFL := Lib.hid hFl
  have hA2 : ∀ k, (Value.slice A2 (13 + n1) c2).ownBlock = some k → W.heap.size ≤ k ∧ k < w2.heap.size := fun k hk => H2.out.own.lt k hk
  have lO : ∀ k, k < w.heap.size → ¬ (Value.slice A2 (13 + n1) c2).ownBlock = some k := fun k hk e => by have := hA2 k e; omega
  have nA : ¬ (Value.slice A2 (13 + n1) c2).ownBlock = some w2.heap.size := fun e => by have := hA2 _ e; omega
  have nR : ¬ (Value.slice A2 (13 + n1) c2).ownBlock = some w.heap.size := fun e => by have := hA2 _ e; omega
  have hsV := HB4.out.size
  have hs5 := g5.size
  have lR : w.heap.size < V4.heap.size := by omega
  refine wp_forget (fun V => StAt B V P D T M O s ∧ SBy V (some ⟨gb, 0, none⟩) (x * s.c.z) F ∧ (V.cell? ⟨w2.heap.size, 0, none⟩ = some (.int .i64 ((a0 : Int) + (u : Int))) ∧ V.cell? ⟨w2.heap.size, 1, none⟩ = some (.int .i64 (13 + (n1 : Int))) ∧ V.cell? ⟨w.heap.size, 0, none⟩ = some (.int .i64 0) ∧ V.cell? ⟨w.heap.size, 1, none⟩ = some (.int .i64 0) ∧ ∀ j, V.frozen? ⟨w.heap.size, j, none⟩ = false) ∧
    Below w.heap.size w V ∧ gb < V.heap.size ∧ w2.heap.size < V.heap.size) ⟨?st, h5.sby, ⟨(g5.cell (p := ⟨w2.heap.size, 0, none⟩) lp4 nA).trans t0, (g5.cell (p := ⟨w2.heap.size, 1, none⟩) lp4 nA).trans t1,
      (g5.cell (p := ⟨w.heap.size, 0, none⟩) lR nR).trans ((HB4.out.cell (p := ⟨w.heap.size, 0, none⟩) hl2).trans HS2.out.1), (g5.cell (p := ⟨w.heap.size, 1, none⟩) lR nR).trans ((HB4.out.cell (p := ⟨w.heap.size, 1, none⟩) hl2).trans HS2.out.2.1),
      fun j => (g5.frozen (p := ⟨w.heap.size, j, none⟩) lR nR).trans ((HB4.out.frozen (p := ⟨w.heap.size, j, none⟩) hl2).trans (HS2.out.2.2 j))⟩, ?bel, hg2, by omega⟩ ?_
  case st => exact HST4.out.off g5 (lO P l1) (lO T l2) (lO M l3) (fun g hg => lO g (l4 g hg).2)
  case bel => exact (below_upto HB2.out HB4.out (Nat.le_refl _)).trans (g5.below (B := w.heap.size) (fun k hk => by have := hA2 k hk; omega) (by omega))
  have hc5 : x * s.c.z ≤ c5 := h5.cap
  have hzl' := hzl
  have hzx : x * s.c.z ≤ 4096 * 4096 := Nat.mul_le_mul (by omega) (by omega)
  clear t0 t1 h5 g5 hFl hF hA2 lO nA nR hsV hs5 lR HST4 HF4 HB4 HS2 H2 HB2 hm2 i2 i3 i4 HLM HLN HNE lp4 q1 i1 hl3 lP3 g lw3 lwV V3 V2 V k2' k1 k2 c1n hg2
  have HX2 := HX
  clear HX
  rintro w6 ⟨hst6, hsb6, ⟨t0, t1, r0, r1, rz⟩, hb6, hg6, hp6⟩
  have HST6 := Lib.hid hst6
  have HSB6 := Lib.hid hsb6
  have HB6 := Lib.hid hb6
  have hl6 : w.heap.size < w6.heap.size := by omega
  have HBX : Hid (∀ wr, Off O w6 wr → (wr.cell? ⟨w2.heap.size, 0, none⟩ = some (.int .i64 ((a0 : Int) + (u : Int))) ∧ wr.cell? ⟨w2.heap.size, 1, none⟩ = some (.int .i64 (13 + (n1 : Int)))) ∧ (wr.cell? ⟨w.heap.size, 0, none⟩ = some (.int .i64 0) ∧ wr.cell? ⟨w.heap.size, 1, none⟩ = some (.int .i64 0) ∧ ∀ j, wr.frozen? ⟨w.heap.size, j, none⟩ = false) ∧ SBy wr (some ⟨gb, 0, none⟩) (x * s.c.z) F) := fun wr ho => by
    have n1 : ¬ O w.heap.size := fun e => by have := (l4 _ e).2; omega
    have n2 : ¬ O w2.heap.size := fun e => by have := (l4 _ e).2; omega
    exact ⟨⟨(ho.cell (p := ⟨w2.heap.size, 0, none⟩) hp6 n2).trans t0, (ho.cell (p := ⟨w2.heap.size, 1, none⟩) hp6 n2).trans t1⟩, ⟨(ho.cell (p := ⟨w.heap.size, 0, none⟩) hl6 n1).trans r0, (ho.cell (p := ⟨w.heap.size, 1, none⟩) hl6 n1).trans r1, fun j => (ho.frozen (p := ⟨w.heap.size, j, none⟩) hl6 n1).trans (rz j)⟩, hsb6.off ho (fun k o e hk => by cases e; have := (l4 _ hk).2; omega)⟩
  have hx1 : 0 < x := by rw [← HX2.out]; exact secs_pos (by omega) (by omega)
  clear t0 t1 r0 r1 rz hst6 hsb6 hb6
  go_loopw [82] (fun i wr => ∃ j : Nat, j = 0 ∧ i = .int .i64 (j : Nat) ∧ wr = w6) (fun i _ => x - (intOf i).toNat)
  case atStart => exact ⟨0, rfl, rfl, rfl⟩
  case round =>
    obtain ⟨j, hj0, rfl, rfl⟩ := hrel
    obtain ⟨⟨t0, t1⟩, ⟨r0, r1, rz⟩, hsr⟩ := HBX.out wr (Off.refl _ _)
    have c9 := HST6.out.c9
    have q1 := HST6.out.bx.2.1
    have lP : P < wr.heap.size := HST6.out.lts.1
    have la : w2.heap.size < wr.heap.size := hp6
    have hlt : j < x := by omega
    have hj6 : j ≤ 0 := by omega
    clear hsr hj0
    obtain ⟨lo, hlo⟩ : ∃ lo, lo = j * s.c.z := ⟨_, rfl⟩
    have hhi : lo + s.c.z ≤ x * s.c.z := by rw [hlo, show j * s.c.z + s.c.z = (j + 1) * s.c.z by rw [Nat.add_mul, Nat.one_mul]]; exact Nat.mul_le_mul_right _ hlt
    obtain ⟨hi, hhi2⟩ : ∃ hi, hi = lo + s.c.z := ⟨_, rfl⟩
    have e1 : (j : Int) * (s.c.z : Int) = (lo : Int) := by rw [hlo]; simp
    have e2 : ((j : Int) + 1) * (s.c.z : Int) = (hi : Int) := by rw [Int.add_mul, Int.one_mul, e1, hhi2]; simp
    have hj1 : (j : Int) < (x : Int) := by omega
    have v1 : IntKind.i64.wrap (lo : Int) = (lo : Int) := IntWalk.i64_in _ (by omega)
    have v2 : IntKind.i64.wrap (hi : Int) = (hi : Int) := IntWalk.i64_in _ (by omega)
    have v3 : IntKind.i64.wrap ((j : Int) + 1) = (j : Int) + 1 := IntWalk.i64_in _ (by omega)
    have v4 : IntKind.i64.wrap ((a0 : Int) + (u : Int) + (j : Int)) = (a0 : Int) + (u : Int) + (j : Int) := IntWalk.i64_in _ (by omega)
    have b1 : (lo : Int) ≤ (hi : Int) := by omega
    have b2 : (hi : Int) ≤ (c5 : Int) := by omega
    have b0 : ¬ hi = lo := by omega
    have HLO := Lib.hid hlo
    have HHI := Lib.hid hhi2
    clear hlo hhi2
    go_upto_region 15 with (fail)
    go_quiet (fail)
    go_upto_region 16 with (fail)
    refine wp_forget (fun V => StAt B V P D T M O s ∧ Off (fun _ => False) wr V) ⟨HST6.out.up (below_drewN (Below.refl _ _) _), Off.of_below (below_drewN (Below.refl _ _) _)⟩ ?_
    clear t0 t1 r0 r1 rz c9 q1 lP la
    rintro V ⟨hst, ho⟩
    obtain ⟨⟨t0, t1⟩, ⟨r0, r1, rz⟩, hsr⟩ := HBX.out V (ho.mono fun _ e => e.elim)
    have HV := Lib.hid hst
    have HOV := Lib.hid ho
    have c9 := hst.c9
    have HWO : Hid (∀ (s' : Int) (x' : Value), Calls Try.prog 47 #[.pointer (some ⟨D, 0, none⟩), .int .i64 s', x'] V.drew fun e w' => e = .returned (.int .i64 8) ∧ w' = V.drew) := fun s' x' => dkWriteOff_any (hst.up ((Below.refl _ _).drew)).dk HOF.out s' x'
    clear hsr hst ho
    go_still_tail 13, (by kernel_rfl)
    go_wp2_with fail
    refine (HWO.out _ _).mono ?_
    rintro _ _ ⟨rfl, rfl⟩
    have hdr : Below V.heap.size V V.drew := (Below.refl _ _).drew
    have hwV : Below wr.heap.size wr V := HOV.out.below (fun k hk => hk.elim) (Nat.le_refl _)
    have hbf : Below w.heap.size w V.drew := below_upto (below_upto HB6.out hwV (Nat.le_refl _)) hdr (Nat.le_refl _)
    have hlV : w.heap.size < V.heap.size := Nat.lt_of_lt_of_le hl6 hwV.size
    have x0 := (hdr.cell (p := ⟨w.heap.size, 0, none⟩) hlV).trans r0
    have x1 := (hdr.cell (p := ⟨w.heap.size, 1, none⟩) hlV).trans r1
    have f0 := (hdr.frozen (p := ⟨w.heap.size, 0, none⟩) hlV).trans (rz 0)
    have f1 := (hdr.frozen (p := ⟨w.heap.size, 1, none⟩) hlV).trans (rz 1)
    have HBF := Lib.hid hbf
    clear hdr hwV hbf hlV HWO HBX t0 t1 r0 r1 rz c9 HV HOV HST6 HSB6 HB6
    generalize V.drew = V2 at *
    obtain ⟨g0, g1⟩ := box2_set (v0 := .int .i64 0) (v1 := .int .i64 0) x0 x1
    have HG := Lib.hid (And.intro g0 g1)
    clear g0 g1
    go_wp2
    refine bodyPost_ret (results_addr rfl _ _ _ _ _ rfl HG.out.1 HG.out.2) rfl ?_
    exact ⟨rfl, (HBF.out.setCell (p := ⟨w.heap.size, 0, none⟩) (Nat.le_refl _) _).setCell (p := ⟨w.heap.size, 1, none⟩) (Nat.le_refl _) _⟩
end
end Go.Proofs.Ytlmgihnnphmmhaa
