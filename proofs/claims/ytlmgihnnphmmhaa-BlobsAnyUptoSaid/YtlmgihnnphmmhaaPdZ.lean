/- blobs: Put, a blob is written. (NOT DONE) -/
import Derived.Test.YtlmgihnnphmmhaaMJ
namespace Go.Proofs.Ytlmgihnnphmmhaa
open Go.RowKit
set_option linter.unusedVariables false
set_option linter.unusedSimpArgs false

/-- A frame, with bytes 0 up to its last sector's end. -/
def padF (z : Nat) (F : Bytes) : Bytes := F ++ zeros (secs z F.length * z - F.length)
def PtPost (B : Nat) (w : World) (P D T M : Nat) (O : Nat → Prop) (s : StS) (b : Bytes) (k u : Nat) (e : Ending) (w' : World) : Prop :=
  e = .returned (.tuple #[addrV (2 + s.c.journal + k * s.c.seg + u : Nat) ((putF b).length : Nat), .int .i64 0]) ∧
    ∃ O', StAt B w' P D T M O' (s.put (s.d.putN (2 + s.c.journal + k * s.c.seg + u) (padF s.c.z (putF b)) (secs s.c.z (putF b).length)) k u (secs s.c.z (putF b).length)) ∧ (∀ g, O' g → O g ∨ w.heap.size ≤ g) ∧ Off (fun g => g = P ∨ g = M ∨ O g) w w'
section
variable {B : Nat} {w w' : World} {P D T M : Nat} {O S : Nat → Prop} {s : StS}
set_option maxRecDepth 100000 in
set_option maxHeartbeats 2000000 in
theorem stPutOk_any (h : StAt B w P D T M O s) {A : Option Addr} {n c : Nat} {b : Bytes} (hb : SBy w A n b) (hc : n ≤ c) (hn : n ≤ 65536) (hlong : secs s.c.z (putF b).length ≤ s.c.seg) {k0 u0 : Nat} (hroom : Room s (secs s.c.z (putF b).length) k0 u0) (hof : s.d.off = false) (hpn : s.d.pend.length ≤ 900000) :
    Calls Try.prog 13 #[.pointer (some ⟨P, 0, none⟩), .slice A n c] w (PtPost B w P D T M O s b k0 u0) := by
  have H := Lib.hid h
  have hlb := hb.1
  have hpk := packB_le b
  have HSB := Lib.hid hb
  have HLG := Lib.hid hlong
  have HNR := Lib.hid hroom
  have HOF := Lib.hid hof
  have HPN := Lib.hid hpn
  have hsg := h.ok.ok.h3
  obtain ⟨l1, l2, l3, l4⟩ := h.lts
  clear h hb hlong hroom hof hpn
  have a0 := alloc_at w (.agg #[.int .i64 0, .int .i64 0]) 30
  have HB : Hid (∀ o, Below w.heap.size w (w.alloc o)) := fun o => (Below.refl _ _).alloc (Nat.le_refl _) o
  go_enter Try.func13, Try.ntmps13
  go_upto_region 1 with (fail)
  refine wp_forget (fun W => (W.cell? ⟨w.heap.size, 0, none⟩ = some (.int .i64 0) ∧ W.cell? ⟨w.heap.size, 1, none⟩ = some (.int .i64 0) ∧ ∀ j, W.frozen? ⟨w.heap.size, j, none⟩ = false) ∧ Below w.heap.size w W ∧ w.heap.size < W.heap.size) ⟨?made, HB.out _, by simp⟩ ?_
  case made =>
    have b1 := heap_alloc_new w (.cells #[.int .i64 0, .int .i64 0] 30)
    exact ⟨by rw [cell_of_row _ _ _ _ _ _ b1]; rfl, by rw [cell_of_row _ _ _ _ _ _ b1]; rfl, fun j => frozen_of_row _ _ _ _ _ b1⟩
  clear HB a0
  rintro W ⟨⟨r0, r1, rz⟩, hbW, hl⟩
  have HBW := Lib.hid hbW
  have HS1 := Lib.hid (HSB.out.up hbW)
  clear hbW
  go_wp2_with fail
  refine (pack_any W A n c b HS1.out hc (by omega)).mono ?_
  rintro _ w1 ⟨A1, n1, c1, rfl, h1⟩
  have H1 := Lib.hid h1
  have e1 := h1.len
  clear h1 HS1
  go_wp2_with fail
  refine (frame_any w1 1 A1 n1 c1 (packB b) (by omega) H1.out.sby (by omega)).mono ?_
  rintro _ w2 ⟨A2, c2, rfl, h2⟩
  have hW1 := H1.out.bel
  have H2 := Lib.hid (h2.elder hW1)
  have hb2 := H2.out.bel
  have s0 := (hb2.cell (p := ⟨w.heap.size, 0, none⟩) hl).trans r0
  have s1 := (hb2.cell (p := ⟨w.heap.size, 1, none⟩) hl).trans r1
  have sz : ∀ j, w2.frozen? ⟨w.heap.size, j, none⟩ = false := fun j => (hb2.frozen (p := ⟨w.heap.size, j, none⟩) hl).trans (rz j)
  have HB2 := Lib.hid (below_upto HBW.out hb2 (Nat.le_refl _))
  have hl2 : w.heap.size < w2.heap.size := Nat.lt_of_lt_of_le hl hb2.size
  clear h2 hW1 hb2 r0 r1 rz HBW H1
  go_upto_region 3 with (fail)
  have hn1 : n1 = (packB b).length := e1.symm
  have HN1 := Lib.hid hn1
  have c1n : n1 ≤ 65537 := by omega
  clear hn1 e1 hpk hlb
  have HSE : Hid (∀ g : Up w, Calls Try.prog 44 #[s.c.val, .agg #[.int .i64 0, .int .i64 (13 + (n1 : Int))]] g.world fun e w' => e = .returned (.int .i64 (secs s.c.z (13 + n1) : Nat)) ∧ Below g.world.heap.size g.world w') := fun g => by
    have := sectors_any g.world H.out.ok.ok 0 (13 + n1) (by omega) (by omega)
    rwa [addrV, Int.natCast_add] at this
  refine wp_forget (fun V => (V.cell? ⟨w2.heap.size, 0, none⟩ = some (.int .i64 0) ∧ V.cell? ⟨w2.heap.size, 1, none⟩ = some (.int .i64 (13 + (n1 : Int))) ∧ ∀ j, V.frozen? ⟨w2.heap.size, j, none⟩ = false) ∧ Below w2.heap.size w2 V ∧ w2.heap.size < V.heap.size) ⟨?madea, (Below.refl _ _).alloc (Nat.le_refl _) _, by simp⟩ ?_
  case madea =>
    have b1 := heap_alloc_new w2 (.cells #[.int .i64 0, .int .i64 (13 + (n1 : Int))] 30)
    exact ⟨by rw [cell_of_row _ _ _ _ _ _ b1]; rfl, by rw [cell_of_row _ _ _ _ _ _ b1]; rfl, fun j => frozen_of_row _ _ _ _ _ b1⟩
  rintro w3 ⟨⟨t0, t1, tz⟩, hb3, hl3⟩
  have HB3 := Lib.hid (below_upto HB2.out hb3 (Nat.le_refl _))
  have HB3a := Lib.hid hb3
  have u0 := (hb3.cell (p := ⟨w.heap.size, 0, none⟩) hl2).trans s0
  have u1 := (hb3.cell (p := ⟨w.heap.size, 1, none⟩) hl2).trans s1
  have uz : ∀ j, w3.frozen? ⟨w.heap.size, j, none⟩ = false := fun j => (hb3.frozen (p := ⟨w.heap.size, j, none⟩) hl2).trans (sz j)
  have HS2 := Lib.hid (And.intro s0 (And.intro s1 sz))
  clear s0 s1 sz hb3
  have HST := Lib.hid (H.out.up HB3.out)
  obtain ⟨q0, q1, q2, q3, q4, q5, q6, q7, q8⟩ := HST.out.bx
  have HSE3 : Hid (∀ g : Up w3, Calls Try.prog 44 #[.agg #[.int .i64 (s.c.sectors : Nat), .int .i64 (s.c.z : Nat), .int .i64 (s.c.journal : Nat), .int .i64 (s.c.seg : Nat), .int .i64 (s.c.page : Nat), .int .i64 (s.c.frames : Nat), .int .i64 (s.c.procs : Nat), .int .i64 (s.c.regions : Nat), .int .i64 (s.c.pages : Nat)], .agg #[.int .i64 0, .int .i64 (13 + (n1 : Int))]] g.world fun e w' => e = .returned (.int .i64 (secs s.c.z (13 + n1) : Nat)) ∧ Below g.world.heap.size g.world w') := fun g => HSE.out ⟨g.world, below_upto HB3.out g.h (Nat.le_refl _)⟩
  have lP3 : P < w3.heap.size := Nat.lt_of_lt_of_le l1 HB3.out.size
  clear HSE
  refine wp_region_up (by kernel_rfl) (by kernel_rfl) ?_
  repeat (go_big_quiet_step (first | (go_at_call 44; exact Calls.up_of (HSE3.out _))))
  refine wpQuiet_nil ?_
  intro V hV
  obtain ⟨g, hg⟩ := hV
  have hb := g.h
  rw [← hg] at hb
  clear hg
  have HBV := Lib.hid (below_upto HB3.out hb (Nat.le_refl _))
  have HBVa := Lib.hid (below_upto HB3a.out hb (Nat.le_refl _))
  have HPV : Hid (V.cell? ⟨w2.heap.size, 0, none⟩ = some (.int .i64 0) ∧ V.cell? ⟨w2.heap.size, 1, none⟩ = some (.int .i64 (13 + (n1 : Int))) ∧ (∀ j, V.frozen? ⟨w2.heap.size, j, none⟩ = false) ∧ w2.heap.size < V.heap.size) :=
    ⟨(hb.cell (p := ⟨w2.heap.size, 0, none⟩) hl3).trans t0, (hb.cell (p := ⟨w2.heap.size, 1, none⟩) hl3).trans t1, fun j => (hb.frozen (p := ⟨w2.heap.size, j, none⟩) hl3).trans (tz j), Nat.lt_of_lt_of_le hl3 hb.size⟩
  have lw3 : w.heap.size < w3.heap.size := Nat.lt_of_lt_of_le hl2 (by omega)
  have lwV : w.heap.size < V.heap.size := Nat.lt_of_lt_of_le lw3 hb.size
  have v3 := (hb.cell (p := ⟨P, 3, none⟩) lP3).trans q3
  have y0 := (hb.cell (p := ⟨w.heap.size, 0, none⟩) lw3).trans u0
  have y1 := (hb.cell (p := ⟨w.heap.size, 1, none⟩) lw3).trans u1
  have yz : ∀ j, V.frozen? ⟨w.heap.size, j, none⟩ = false := fun j => (hb.frozen (p := ⟨w.heap.size, j, none⟩) lw3).trans (uz j)
  have z0 := yz 0
  have z1 := yz 1
  have hlg : secs s.c.z (13 + n1) ≤ s.c.seg := by have := HLG.out; rwa [putF_length, ← HN1.out] at this
  have hnr := HNR.out
  rw [putF_length, ← HN1.out] at hnr
  clear q0 q1 q2 q3 q4 q5 q6 q7 q8 u0 u1 uz t0 t1 tz HSE3 hb yz
  obtain ⟨x, hx0⟩ : ∃ x, secs s.c.z (13 + n1) = x := ⟨_, rfl⟩
  have HX := Lib.hid hx0
  rw [hx0] at hlg hnr ⊢
  clear hx0
  have HNR2 := Lib.hid hnr
  have k1 : ¬ (s.c.seg : Int) < (x : Int) := by omega
  have k2 : ¬ (1048576 : Int) < 13 + (n1 : Int) := by omega
  have k2' : ¬ 1048576 < 13 + n1 := by omega
  have HSTV := Lib.hid (H.out.up HBV.out)
  have HNX := Lib.hid (stNext_any HSTV.out (n := x) (by omega))
  clear hlg hnr
  go_wp2_with fail
  refine HNX.out.mono ?_
  rintro _ V2 ⟨k, u, er, rfl, hx, hb2⟩
  obtain ⟨rfl, rfl, rfl⟩ := hx.room HNR2.out
  obtain ⟨hk1, hk2⟩ := HNR2.out.lt HSTV.out.ok (fun k e he => (HSTV.out.tb.ok k e he).1) (by omega)
  have HB4 := Lib.hid (below_upto HBV.out hb2 (Nat.le_refl _))
  have x0 := (hb2.cell (p := ⟨w.heap.size, 0, none⟩) lwV).trans y0
  have x1 := (hb2.cell (p := ⟨w.heap.size, 1, none⟩) lwV).trans y1
  have f0 : V2.frozen? ⟨w.heap.size, 0, none⟩ = false := (hb2.frozen (p := ⟨w.heap.size, 0, none⟩) lwV).trans z0
  have f1 : V2.frozen? ⟨w.heap.size, 1, none⟩ = false := (hb2.frozen (p := ⟨w.heap.size, 1, none⟩) lwV).trans z1
  obtain ⟨hp0, hp1, hpz, hpl⟩ := HPV.out
  have p0 := (hb2.cell (p := ⟨w2.heap.size, 0, none⟩) hpl).trans hp0
  have p1 := (hb2.cell (p := ⟨w2.heap.size, 1, none⟩) hpl).trans hp1
  have pz : V2.frozen? ⟨w2.heap.size, 0, none⟩ = false := (hb2.frozen (p := ⟨w2.heap.size, 0, none⟩) hpl).trans (hpz 0)
  have HF2 := Lib.hid ((H2.out.up HBVa.out).up hb2)
  have HST2 := Lib.hid (HSTV.out.up hb2)
  have HSG := Lib.hid (fun w' => segment_any w' H.out.ok.ok hk1)
  have lp2 : w2.heap.size < V2.heap.size := Nat.lt_of_lt_of_le hpl hb2.size
  have lw2 : w.heap.size < V2.heap.size := Nat.lt_of_lt_of_le lwV hb2.size
  obtain ⟨q0, q1, q2, q3, q4, q5, q6, q7, q8⟩ := HST2.out.bx
  have HBVb := Lib.hid (below_upto HBVa.out hb2 (Nat.le_refl _))
  clear hb2 y0 y1 z0 z1 hp0 hp1 hpz hpl HPV HBVa HSTV HNX HBV hx v3 HST HB3 HB3a
  have hroom2 := H.out.ok.ok.room
  have hsl := H.out.ok.ok.h0
  have hzl := H.out.ok.ok.h1
  have hkl : k0 * s.c.seg + s.c.seg ≤ s.c.segs * s.c.seg := by have h4 : (k0 + 1) * s.c.seg ≤ s.c.segs * s.c.seg := Nat.mul_le_mul_right _ (by omega); rw [Nat.add_mul, Nat.one_mul] at h4; exact h4
  obtain ⟨a0, ha0⟩ : ∃ a, a = 2 + s.c.journal + k0 * s.c.seg := ⟨_, rfl⟩
  have ha1 : a0 + s.c.seg ≤ 65536 := by omega
  rw [← ha0] at HSG
  have HA0 := Lib.hid ha0
  have HSL : Hid (a0 + s.c.seg ≤ s.c.sectors) := by show a0 + s.c.seg ≤ s.c.sectors; omega
  clear ha0 hkl hroom2 hsl
  unfold Cfg.val at HSG
  go_upto_region 9 with (fail)
  go_wp2_with fail
  refine (HSG.out V2).mono ?_
  rintro _ V3 ⟨rfl, hb3⟩
  have HB5 := Lib.hid (below_upto HB4.out hb3 (Nat.le_refl _))
  have hV2 := HB4.out.size
  have lP2 : P < V2.heap.size := Nat.lt_of_lt_of_le l1 hV2
  have t0 := (hb3.cell (p := ⟨w2.heap.size, 0, none⟩) lp2).trans p0
  have t1 := (hb3.cell (p := ⟨w2.heap.size, 1, none⟩) lp2).trans p1
  have tz := (hb3.frozen (p := ⟨w2.heap.size, 0, none⟩) lp2).trans pz
  have r0 := (hb3.cell (p := ⟨w.heap.size, 0, none⟩) lw2).trans x0
  have r1 := (hb3.cell (p := ⟨w.heap.size, 1, none⟩) lw2).trans x1
  have rf0 := (hb3.frozen (p := ⟨w.heap.size, 0, none⟩) lw2).trans f0
  have rf1 := (hb3.frozen (p := ⟨w.heap.size, 1, none⟩) lw2).trans f1
  have HF3 := Lib.hid (HF2.out.up hb3)
  have HST3 := Lib.hid (HST2.out.up hb3)
  have lp3 : w2.heap.size < V3.heap.size := Nat.lt_of_lt_of_le lp2 hb3.size
  have HBVc := Lib.hid (below_upto HBVb.out hb3 (Nat.le_refl _))
  clear HBVb hb3 p0 p1 pz x0 x1 f0 f1 q0 q1 q2 q3 q4 q5 q6 q7 q8 HF2 HST2 HSG
  have i1 : IntKind.i64.wrap ((a0 : Int) + (u : Int)) = (a0 : Int) + (u : Int) := IntWalk.i64_in _ (by omega)
  go_upto_region 11 with (fail)
  have HBd := Lib.hid (HBVc.out.setCell (p := ⟨w2.heap.size, 0, none⟩) (Nat.le_refl _) (.int .i64 ((a0 : Int) + (u : Int))))
  have n1a : (⟨w2.heap.size, 1, none⟩ : Addr) ≠ ⟨w2.heap.size, 0, none⟩ := fun e => by injection e with e1 e2; omega
  refine wp_forget (fun V => Below w2.heap.size w2 V ∧ V.cell? ⟨w2.heap.size, 0, none⟩ = some (.int .i64 ((a0 : Int) + (u : Int))) ∧ V.cell? ⟨w2.heap.size, 1, none⟩ = some (.int .i64 (13 + (n1 : Int))) ∧ w2.heap.size < V.heap.size) ⟨HBd.out, World.cell?_setCell_same _ _ _ t0, (World.cell?_setCell_other _ _ _ _ n1a.symm).trans t1, by simpa using lp3⟩ ?_
  clear HBd HBVc t0 t1 tz r0 r1 rf0 rf1 HF3 HST3 lp3 lp2 lw2 lP2 HB5 HB4 hV2 n1a
  rintro V4 ⟨hb4, t0, t1, lp4⟩
  have HB4 := Lib.hid hb4
  have HF4 := Lib.hid (H2.out.up hb4)
  have HST4 := Lib.hid (H.out.up (below_upto HB2.out hb4 (Nat.le_refl _)))
  have q1 := HST4.out.bx.2.1
  have hge : 13 + n1 ≤ x * s.c.z := by have := secs_ge (z := s.c.z) (n := 13 + n1) (by omega); rwa [HX.out] at this
  have hle : x * s.c.z ≤ 4096 * 4096 := Nat.mul_le_mul (by omega) (by omega)
  obtain ⟨m, hm⟩ : ∃ m, 13 + n1 + m = x * s.c.z := ⟨x * s.c.z - (13 + n1), by omega⟩
  have hm2 : (x : Int) * (s.c.z : Int) = 13 + (n1 : Int) + (m : Int) := by rw [← Int.natCast_mul, ← hm]; omega
  have i2 : IntKind.i64.wrap (13 + (n1 : Int) + (m : Int)) = 13 + (n1 : Int) + (m : Int) := IntWalk.i64_in _ (by omega)
  have i3 : 13 + (n1 : Int) + (m : Int) - (13 + (n1 : Int)) = (m : Int) := by omega
  have i4 : IntKind.i64.wrap (m : Int) = (m : Int) := IntWalk.i64_in _ (by omega)
  have HM := Lib.hid hm
  have hlf : (frameB (b8 1) (packB b)).length = 13 + n1 := by rw [frameB_length, HN1.out]
  have HNE : Hid (frameB (b8 1) (packB b) ≠ []) := fun e => by rw [e] at hlf; have h0 : (0 : Nat) = 13 + n1 := hlf; omega
  have HLN : Hid ((frameB (b8 1) (packB b)).length + m ≤ 1073741824) := by show _ ≤ _; omega
  have HLM : Hid ((frameB (b8 1) (packB b)).length + m = x * s.c.z) := by show _ = _; omega
  clear hb4 hge hle hm hlf
  go_wp2_with (at_builtin; go_must (refine wpList_appZ rfl (.tmp 69) (.tmp 79) rfl W (.slice A2 (13 + n1) c2) (frameB (b8 1) (packB b)) rfl HF4.out HNE.out m rfl HLN.out (x * s.c.z) HLM.out ?_); intro A5 c5 w5 h5 g5)
  have hzp : 0 < x * s.c.z := by have := HM.out; omega
  obtain ⟨gb, hgb, hg1, hg2⟩ : ∃ gb, A5 = some ⟨gb, 0, none⟩ ∧ W.heap.size ≤ gb ∧ gb < w5.heap.size := by
    obtain ⟨A', c', he, _, _, h3, h4⟩ := h5.own.form
    have hl5 := h5.len
    obtain ⟨b', o', hb', _, _⟩ := h5.sby.2 hzp
    injection he with e1 e2 e3
    obtain ⟨k1, k2, k3⟩ := h4 b' o' (by rw [← e1]; exact hb')
    exact ⟨b', by rw [hb', k3], k1, k2⟩
  subst hgb
  obtain ⟨F, hF⟩ : ∃ F, F = frameB (b8 1) (packB b) ++ zeros m := ⟨_, rfl⟩
  have hFl : F.length = x * s.c.z := by rw [hF]; exact h5.len
  rw [← hF] at h5
  have HFD := Lib.hid hF
  have HFL := Lib.hid hFl
  have hA2 : ∀ k, (Value.slice A2 (13 + n1) c2).ownBlock = some k → W.heap.size ≤ k ∧ k < w2.heap.size := fun k hk => H2.out.own.lt k hk
  have lO : ∀ k, k < w.heap.size → ¬ (Value.slice A2 (13 + n1) c2).ownBlock = some k := fun k hk e => by have := hA2 k e; omega
  have nA : ¬ (Value.slice A2 (13 + n1) c2).ownBlock = some w2.heap.size := fun e => by have := hA2 _ e; omega
  have nR : ¬ (Value.slice A2 (13 + n1) c2).ownBlock = some w.heap.size := fun e => by have := hA2 _ e; omega
  have hsV := HB4.out.size
  have hs5 := g5.size
  have lR : w.heap.size < V4.heap.size := by omega
  refine wp_forget (fun V => StAt B V P D T M O s ∧ SBy V (some ⟨gb, 0, none⟩) (x * s.c.z) F ∧ (V.cell? ⟨w2.heap.size, 0, none⟩ = some (.int .i64 ((a0 : Int) + (u : Int))) ∧ V.cell? ⟨w2.heap.size, 1, none⟩ = some (.int .i64 (13 + (n1 : Int))) ∧ V.cell? ⟨w.heap.size, 0, none⟩ = some (.int .i64 0) ∧ V.cell? ⟨w.heap.size, 1, none⟩ = some (.int .i64 0) ∧ ∀ j, V.frozen? ⟨w.heap.size, j, none⟩ = false) ∧
    Below w.heap.size w V ∧ gb < V.heap.size ∧ w2.heap.size < V.heap.size) ⟨?st, h5.sby, ⟨(g5.cell (p := ⟨w2.heap.size, 0, none⟩) lp4 nA).trans t0, (g5.cell (p := ⟨w2.heap.size, 1, none⟩) lp4 nA).trans t1,
      (g5.cell (p := ⟨w.heap.size, 0, none⟩) lR nR).trans ((HB4.out.cell (p := ⟨w.heap.size, 0, none⟩) hl2).trans HS2.out.1), (g5.cell (p := ⟨w.heap.size, 1, none⟩) lR nR).trans ((HB4.out.cell (p := ⟨w.heap.size, 1, none⟩) hl2).trans HS2.out.2.1),
      fun j => (g5.frozen (p := ⟨w.heap.size, j, none⟩) lR nR).trans ((HB4.out.frozen (p := ⟨w.heap.size, j, none⟩) hl2).trans (HS2.out.2.2 j))⟩, ?bel, hg2, by omega⟩ ?_
  case st => exact HST4.out.off g5 (lO P l1) (lO T l2) (lO M l3) (fun g hg => lO g (l4 g hg).2)
  case bel => exact (below_upto HB2.out HB4.out (Nat.le_refl _)).trans (g5.below (B := w.heap.size) (fun k hk => by have := hA2 k hk; omega) (by omega))
  have hc5 : x * s.c.z ≤ c5 := h5.cap
  have hzl' := hzl
  have hzx : x * s.c.z ≤ 4096 * 4096 := Nat.mul_le_mul (by omega) (by omega)
  clear t0 t1 h5 g5 hFl hF hA2 lO nA nR hsV hs5 lR HST4 HF4 HB4 HS2 H2 HB2 hm2 i2 i3 i4 HLM HLN HNE lp4 q1 i1 hl3 lP3 g lw3 lwV V3 V2 V k2' k1 k2 c1n hg2
  have HX2 := HX
  clear HX
  rintro w6 ⟨hst6, hsb6, ⟨t0, t1, r0, r1, rz⟩, hb6, hg6, hp6⟩
  have HST6 := Lib.hid hst6
  have HSB6 := Lib.hid hsb6
  have HB6 := Lib.hid hb6
  have hl6 : w.heap.size < w6.heap.size := by omega
  have HBX : Hid (∀ wr, Off O w6 wr → (wr.cell? ⟨w2.heap.size, 0, none⟩ = some (.int .i64 ((a0 : Int) + (u : Int))) ∧ wr.cell? ⟨w2.heap.size, 1, none⟩ = some (.int .i64 (13 + (n1 : Int)))) ∧ (wr.cell? ⟨w.heap.size, 0, none⟩ = some (.int .i64 0) ∧ wr.cell? ⟨w.heap.size, 1, none⟩ = some (.int .i64 0) ∧ ∀ j, wr.frozen? ⟨w.heap.size, j, none⟩ = false) ∧ SBy wr (some ⟨gb, 0, none⟩) (x * s.c.z) F) := fun wr ho => by
    have n1 : ¬ O w.heap.size := fun e => by have := (l4 _ e).2; omega
    have n2 : ¬ O w2.heap.size := fun e => by have := (l4 _ e).2; omega
    exact ⟨⟨(ho.cell (p := ⟨w2.heap.size, 0, none⟩) hp6 n2).trans t0, (ho.cell (p := ⟨w2.heap.size, 1, none⟩) hp6 n2).trans t1⟩, ⟨(ho.cell (p := ⟨w.heap.size, 0, none⟩) hl6 n1).trans r0, (ho.cell (p := ⟨w.heap.size, 1, none⟩) hl6 n1).trans r1, fun j => (ho.frozen (p := ⟨w.heap.size, j, none⟩) hl6 n1).trans (rz j)⟩, hsb6.off ho (fun k o e hk => by cases e; have := (l4 _ hk).2; omega)⟩
  have HL0 := Lib.hid (PutLp.start (F := F) (a := a0 + u) hst6)
  clear t0 t1 r0 r1 rz hst6 hsb6 hb6
  go_loopw [82] (fun i wr => ∃ j : Nat, j ≤ x ∧ i = .int .i64 (j : Nat) ∧ ∃ O', PutLp B P D T M O s w6 (a0 + u) F j O' wr) (fun i _ => x - (intOf i).toNat)
  case atStart => exact ⟨0, Nat.zero_le _, rfl, _, HL0.out⟩
  case round =>
    obtain ⟨j, hj, rfl, O', hp⟩ := hrel
    have HP := Lib.hid hp
    clear HL0
    obtain ⟨⟨t0, t1⟩, ⟨r0, r1, rz⟩, hsr⟩ := HBX.out wr hp.off
    have c9 := hp.st.c9
    have q1 := hp.st.bx.2.1
    have lP : P < wr.heap.size := hp.st.lts.1
    have la : w2.heap.size < wr.heap.size := Nat.lt_of_lt_of_le hp6 hp.off.size
    have HSR := Lib.hid hsr
    clear hp hsr
    by_cases hlt : j < x
    · obtain ⟨lo, hlo⟩ : ∃ lo, lo = j * s.c.z := ⟨_, rfl⟩
      have hhi : lo + s.c.z ≤ x * s.c.z := by rw [hlo, show j * s.c.z + s.c.z = (j + 1) * s.c.z by rw [Nat.add_mul, Nat.one_mul]]; exact Nat.mul_le_mul_right _ hlt
      obtain ⟨hi, hhi2⟩ : ∃ hi, hi = lo + s.c.z := ⟨_, rfl⟩
      have e1 : (j : Int) * (s.c.z : Int) = (lo : Int) := by rw [hlo]; simp
      have e2 : ((j : Int) + 1) * (s.c.z : Int) = (hi : Int) := by rw [Int.add_mul, Int.one_mul, e1, hhi2]; simp
      have hj1 : (j : Int) < (x : Int) := by omega
      have v1 : IntKind.i64.wrap (lo : Int) = (lo : Int) := IntWalk.i64_in _ (by omega)
      have v2 : IntKind.i64.wrap (hi : Int) = (hi : Int) := IntWalk.i64_in _ (by omega)
      have v3 : IntKind.i64.wrap ((j : Int) + 1) = (j : Int) + 1 := IntWalk.i64_in _ (by omega)
      have v4 : IntKind.i64.wrap ((a0 : Int) + (u : Int) + (j : Int)) = (a0 : Int) + (u : Int) + (j : Int) := IntWalk.i64_in _ (by omega)
      have b1 : (lo : Int) ≤ (hi : Int) := by omega
      have b2 : (hi : Int) ≤ (c5 : Int) := by omega
      have b0 : ¬ hi = lo := by omega
      have HLO := Lib.hid hlo
      have HHI := Lib.hid hhi2
      clear hlo hhi2
      go_upto_region 15 with (fail)
      go_quiet (fail)
      go_upto_region 16 with (fail)
      refine wp_forget (fun V => PutLp B P D T M O s w6 (a0 + u) F j O' V) (HP.out.drew _) ?_
      clear t0 t1 r0 r1 rz c9 q1 lP la HSR HP
      intro V hp
      have HP := Lib.hid hp
      obtain ⟨⟨t0, t1⟩, ⟨r0, r1, rz⟩, hsr⟩ := HBX.out V hp.off
      have c9 := hp.st.c9
      have HSR := Lib.hid hsr
      clear hp hsr
      go_still_tail 13, (by kernel_rfl)
      go_wp2_with fail
      have HC : Hid (Calls Try.prog 47 #[.pointer (some ⟨D, 0, none⟩), .int .i64 ((a0 : Int) + (u : Int) + (j : Int)), .slice (some ⟨gb, lo, none⟩) (hi - lo) (hi - lo)] V.drew fun e w' => WrPost B V.drew D ((s.d.putN (a0 + u) F j).write (a0 + u + j) (sec s.d.z F j)) O' e w' 0) := by
        have hdz : s.d.z = s.c.z := HST6.out.ok.dz
        have hd := (HP.out.drew 1).st.dk
        have e3 : hi - lo = (s.d.putN (a0 + u) F j).z := by rw [putN_z, hdz, HHI.out]; omega
        have e4 : (a0 : Int) + (u : Int) + (j : Int) = ((a0 + u + j : Nat) : Int) := by omega
        have hsb := HSR.out.part lo hi (by omega) (by have := HHI.out; omega)
        have e5 : (F.drop lo).take (hi - lo) = sec s.d.z F j := by
          unfold sec
          rw [HLO.out, hdz, show hi - j * s.c.z = s.c.z by rw [HHI.out, HLO.out]; omega]
        rw [e5] at hsb
        rw [Nat.zero_add, e3] at hsb
        rw [e3, e4]
        refine dkWrite_any hd ?_ ?_ hsb.drew (Nat.le_refl _) ?_
        · show (s.d.putN (a0 + u) F j).off = false
          rw [putN_off]; exact HOF.out
        · show _ < (s.d.putN (a0 + u) F j).S
          rw [putN_S, HST6.out.ok.dS]
          have := HSL.out
          have := HA0.out
          omega
        · show (s.d.putN (a0 + u) F j).pend.length ≤ 1000000
          rw [putN_pend]
          have := HPN.out
          omega
      refine HC.out.mono ?_
      rintro _ W2 ⟨rfl, hoff, O2, hd2, ho2⟩
      have HP2 := Lib.hid ((HP.out.drew 1).step rfl hoff hd2 ho2)
      clear HC hoff hd2 ho2 HP HSR t0 t1 r0 r1 rz c9
      go_wp2
      go_roundw
      case rel => exact ⟨j + 1, by omega, by go_num, _, HP2.out⟩
      case measure => simp [intOf]; omega
    · have hjx : j = x := by omega
      subst hjx
      have hge : ¬ (j : Int) < (j : Int) := by omega
      clear hlt
      have HOP : Hid (∃ opv : Int, (kOf s.op = opv) ∧ wr.cell? ⟨P, 11, none⟩ = some (.int .i64 opv)) := ⟨_, rfl, HP.out.st.c11⟩
      obtain ⟨opv, hop, c11⟩ := HOP.out
      have HKO := Lib.hid hop
      clear hop HOP
      have z12 := HP.out.st.zf 12
      have z11 := HP.out.st.zf 11
      have c12 := HP.out.st.c12
      have c10 := HP.out.st.c10
      have hAdd : ((u : Int) + (j : Int)) = ((u + j : Nat) : Int) := by omega
      have HAD := Lib.hid hAdd
      clear hAdd
      have v5 : IntKind.i64.wrap ((u : Int) + (j : Int)) = (u : Int) + (j : Int) := IntWalk.i64_in _ (by omega)
      have HTK := Lib.hid (HNR2.out.take HST6.out.ok (fun k e he => (HST6.out.tb.ok k e he).2.1))
      have HOKP : Hid (StOk (s.put (s.d.putN (a0 + u) F j) k0 u j)) := HST6.out.ok.put HNR2.out (fun k e he => (HST6.out.tb.ok k e he).2.1) hk2 (putN_S _ _ _ _) (putN_z _ _ _ _)
      have HFX : Hid (F = padF s.c.z (putF b)) := by
        have h1 := HX2.out
        have h2 := HM.out
        have h3 : (putF b).length = 13 + n1 := by rw [putF_length, HN1.out]
        show F = putF b ++ zeros (secs s.c.z (putF b).length * s.c.z - (putF b).length)
        rw [HFD.out, h3, h1, ← h2, Nat.add_sub_cancel_left]
        exact rfl
      have HXF : Hid (j = secs s.c.z (putF b).length) := by rw [putF_length, ← HN1.out, HX2.out]; exact rfl
      have HNL : Hid ((putF b).length = 13 + n1) := by rw [putF_length, HN1.out]; exact rfl
      have hus : u + j ≤ 4096 := by omega
      have lw6 := Lib.hid HP.out.off.size
      -- what is left when the table has been told
      have HEND : Hid (∀ (V3 : World) (t' : TbS), t' = (s.put (s.d.putN (a0 + u) F j) k0 u j).t → StM B V3 P D T M O' ⟨s.c, s.d.putN (a0 + u) F j, t', some k0, u + j⟩ → Off (fun g => g = P ∨ g = M) wr V3 →
          (StAt B V3 P D T M O' (s.put (s.d.putN (a0 + u) F j) k0 u j) ∧ (∀ g, O' g → O g ∨ w.heap.size ≤ g) ∧ Off (fun g => g = P ∨ g = M ∨ O g) w V3) ∧ (V3.cell? ⟨w2.heap.size, 0, none⟩ = some (.int .i64 ((a0 : Int) + (u : Int))) ∧ V3.cell? ⟨w2.heap.size, 1, none⟩ = some (.int .i64 (13 + (n1 : Int)))) ∧ (V3.cell? ⟨w.heap.size, 0, none⟩ = some (.int .i64 0) ∧ V3.cell? ⟨w.heap.size, 1, none⟩ = some (.int .i64 0) ∧ V3.frozen? ⟨w.heap.size, 0, none⟩ = false ∧ V3.frozen? ⟨w.heap.size, 1, none⟩ = false)) := by
        intro V3 t' ht hm ho
        have n1' : ∀ k, w.heap.size ≤ k → ¬ (k = P ∨ k = M) := fun k hk e => by omega
        have lwr : w.heap.size < wr.heap.size := Nat.lt_of_lt_of_le hl6 HP.out.off.size
        refine ⟨⟨⟨?_, HOKP.out⟩, fun g hg => ?_, ?_⟩, ⟨(ho.cell (p := ⟨w2.heap.size, 0, none⟩) la (n1' w2.heap.size (Nat.le_of_lt hl2))).trans t0, (ho.cell (p := ⟨w2.heap.size, 1, none⟩) la (n1' w2.heap.size (Nat.le_of_lt hl2))).trans t1⟩, (ho.cell (p := ⟨w.heap.size, 0, none⟩) lwr (n1' _ (Nat.le_refl _))).trans r0, (ho.cell (p := ⟨w.heap.size, 1, none⟩) lwr (n1' _ (Nat.le_refl _))).trans r1, (ho.frozen (p := ⟨w.heap.size, 0, none⟩) lwr (n1' _ (Nat.le_refl _))).trans (rz 0), (ho.frozen (p := ⟨w.heap.size, 1, none⟩) lwr (n1' _ (Nat.le_refl _))).trans (rz 1)⟩
        · rw [ht] at hm
          exact hm
        · rcases HP.out.oo g hg with e | e
          · exact .inl e
          · exact .inr (by omega)
        · exact (((Off.of_below HB6.out).trans (HP.out.off.mono (S' := fun g => g = P ∨ g = M ∨ O g) fun g e => .inr (.inr e))).trans (ho.mono fun g e => by rcases e with e | e; exact .inl e; exact .inr (.inl e)))
      have HPOST : Hid (∀ V3, (StAt B V3 P D T M O' (s.put (s.d.putN (a0 + u) F j) k0 u j) ∧ (∀ g, O' g → O g ∨ w.heap.size ≤ g) ∧ Off (fun g => g = P ∨ g = M ∨ O g) w V3) →
          PtPost B w P D T M O s b k0 u (.returned (.tuple #[.agg #[.int .i64 ((a0 : Int) + (u : Int)), .int .i64 (13 + (n1 : Int))], .int .i64 0])) ((V3.setCell ⟨w.heap.size, 0, none⟩ (.int .i64 ((a0 : Int) + (u : Int)))).setCell ⟨w.heap.size, 1, none⟩ (.int .i64 (13 + (n1 : Int))))) := by
        intro V3 ⟨g1, g2, g3⟩
        have ho : Off (fun g => g = w.heap.size) V3 ((V3.setCell ⟨w.heap.size, 0, none⟩ (.int .i64 ((a0 : Int) + (u : Int)))).setCell ⟨w.heap.size, 1, none⟩ (.int .i64 (13 + (n1 : Int)))) := ((Off.refl (fun g => g = w.heap.size) V3).setCell (p := ⟨w.heap.size, 0, none⟩) rfl _).setCell (p := ⟨w.heap.size, 1, none⟩) rfl _
        have hst : StAt B ((V3.setCell ⟨w.heap.size, 0, none⟩ (.int .i64 ((a0 : Int) + (u : Int)))).setCell ⟨w.heap.size, 1, none⟩ (.int .i64 (13 + (n1 : Int)))) P D T M O' (s.put (s.d.putN (a0 + u) F j) k0 u j) := g1.off ho (by omega) (by omega) (by omega) (fun g hg => by
          rcases HP.out.oo g hg with e | e
          · have := (l4 g e).2; omega
          · omega)
        have e0 : ((2 + s.c.journal + k0 * s.c.seg + u : Nat) : Int) = (a0 : Int) + (u : Int) := by have := HA0.out; omega
        have e1 : (((putF b).length : Nat) : Int) = 13 + (n1 : Int) := by rw [HNL.out]; omega
        have e2 : 2 + s.c.journal + k0 * s.c.seg + u = a0 + u := by have := HA0.out; omega
        refine ⟨by unfold addrV; rw [e0, e1], O', ?_, g2, g3.late ho (fun i hi e => by omega)⟩
        rw [e2, ← HFX.out, ← HXF.out]
        exact hst
      clear t0 t1 r0 r1 rz HBX hge
      by_cases hk : opv = (k0 : Int)
      · subst hk
        have hop : s.op = some k0 := by
          have h1 := HKO.out
          cases ho : s.op with
          | none => rw [ho] at h1; unfold kOf at h1; simp only at h1; omega
          | some k => rw [ho] at h1; unfold kOf at h1; simp only at h1; rw [show k = k0 by omega]
        have htk : takeT s k0 = s.t := if_pos hop
        have HSM : Hid (StM B (wr.setCell ⟨P, 12, none⟩ (.int .i64 ((u : Int) + (j : Int)))) P D T M O' ⟨s.c, s.d.putN (a0 + u) F j, s.t, some k0, u + j⟩ ∧ Off (fun g => g = P) wr (wr.setCell ⟨P, 12, none⟩ (.int .i64 ((u : Int) + (j : Int))))) := by
          rw [HAD.out]
          exact HP.out.st.toStM.set1 (op' := some k0) (.inr ⟨rfl, rfl, hop.symm⟩)
        obtain ⟨us, hus0⟩ : ∃ us, us = (takeT s k0).us k0 := ⟨_, rfl⟩
        have HTE : Hid (s.t.ent k0 = some (1, us) ∧ us ≤ u) := by
          have := HTK.out
          rw [← hus0, htk] at this
          exact this
        have HADD : Hid (Calls Try.prog 50 #[.pointer (some ⟨T, 0, none⟩), .int .i64 (k0 : Nat), .int .i64 (j : Nat)] (wr.setCell ⟨P, 12, none⟩ (.int .i64 ((u : Int) + (j : Int)))) (AdPost B (wr.setCell ⟨P, 12, none⟩ (.int .i64 ((u : Int) + (j : Int)))) T M s.t k0 (1, us + j))) :=
          tbAdd_any HSM.out.1.tb HTE.out.1 (by omega) (by have := HTE.out.2; omega)
        have HTT : Hid (s.t.setE k0 (1, us + j) = (s.put (s.d.putN (a0 + u) F j) k0 u j).t) := by
          show _ = (takeT s k0).setE k0 (1, (takeT s k0).us k0 + j)
          rw [← hus0, htk]
        clear hop htk hus0
        go_wp2_with fail
        refine HADD.out.mono ?_
        rintro _ V3 ⟨rfl, hT3, hO3⟩
        obtain ⟨hA, ⟨t0, t1⟩, r0, r1, z0, z1⟩ := HEND.out V3 _ HTT.out (HSM.out.1.tab hO3 hT3) ((HSM.out.2.mono fun g e => .inl e).trans (hO3.mono fun g e => .inr e))
        have HA := Lib.hid hA
        clear hT3 hO3 hA HEND HADD HSM c9 q1 c10 c11 c12 z11 z12
        go_upto_region 26 with (fail)
        go_wp2
        obtain ⟨f0, f1⟩ := box2_set (v0 := .int .i64 ((a0 : Int) + (u : Int))) (v1 := .int .i64 (13 + (n1 : Int))) r0 r1
        refine bodyPost_ret (results_addr rfl _ _ _ _ _ rfl f0 f1) rfl ?_
        exact HPOST.out V3 HA.out
      · have hk' : ¬ (k0 : Int) = opv := fun e => hk e.symm
        have hop : s.op ≠ some k0 := fun e => hk (by have h1 := HKO.out; rw [e] at h1; exact h1.symm)
        obtain ⟨q1', q2', q3', q4'⟩ := HNR2.out.ent HST6.out.ok (fun k e he => (HST6.out.tb.ok k e he).2.1) hop
        have HRE := Lib.hid (And.intro q1' (And.intro q2' q3'))
        have HTT : Hid (((fillT s.t s.op).setE k0 (1, 0)).setE k0 (1, 0 + j) = (s.put (s.d.putN (a0 + u) F j) k0 u j).t) := by
          show _ = (takeT s k0).setE k0 (1, (takeT s k0).us k0 + j)
          have e1 : takeT s k0 = (fillT s.t s.op).setE k0 (1, 0) := if_neg hop
          have e2 : ((fillT s.t s.op).setE k0 (1, 0)).us k0 = 0 := by unfold TbS.us TbS.setE; simp
          rw [e1, e2]
        have HFI := Lib.hid (stFill_any HP.out.st)
        clear hop q1' q2' q3' q4' c9 q1
        go_wp2_with fail
        refine HFI.out.mono ?_
        rintro _ V1 ⟨rfl, hs1, ho1⟩
        have HS1 : Hid (StAt B V1 P D T M O' ⟨s.c, s.d.putN (a0 + u) F j, fillT s.t s.op, none, 0⟩) := hs1
        have HO1 := Lib.hid ho1
        clear hs1 ho1 HFI c10 c11 c12 z11 z12
        have c10 := HS1.out.c10
        have HTA := Lib.hid (tbTake_any (k := k0) HS1.out.tb (by show k0 < (fillT s.t s.op).n; rw [fillT_n]; exact HRE.out.2.2) HRE.out.1 HRE.out.2.1)
        go_wp2_with fail
        refine HTA.out.mono ?_
        rintro _ V2 ⟨rfl, hT2, hO2⟩
        have HS2 := Lib.hid (HS1.out.toStM.tab hO2 hT2)
        have HO2 : Hid (Off (fun g => g = P ∨ g = M) wr V2) := HO1.out.trans (hO2.mono fun g e => .inr e)
        clear hT2 hO2 HTA HO1 HS1 c10
        have c10 := HS2.out.c10
        have c11 := HS2.out.c11
        have c12 := HS2.out.c12
        have z11 := HS2.out.zf 11
        have z12 := HS2.out.zf 12
        have HSM : Hid (StM B ((V2.setCell ⟨P, 11, none⟩ (.int .i64 (k0 : Nat))).setCell ⟨P, 12, none⟩ (.int .i64 ((u : Int) + (j : Int)))) P D T M O' ⟨s.c, s.d.putN (a0 + u) F j, (fillT s.t s.op).setE k0 (1, 0), some k0, u + j⟩ ∧
            Off (fun g => g = P) V2 ((V2.setCell ⟨P, 11, none⟩ (.int .i64 (k0 : Nat))).setCell ⟨P, 12, none⟩ (.int .i64 ((u : Int) + (j : Int))))) := by
          rw [HAD.out]
          have h1 := HS2.out.set1 (op' := some k0) (us' := 0) (j := 11) (x := .int .i64 (k0 : Nat)) (.inl ⟨rfl, rfl, rfl⟩)
          have h2 := h1.1.set1 (op' := some k0) (us' := u + j) (j := 12) (x := .int .i64 (u + j : Nat)) (.inr ⟨rfl, rfl, rfl⟩)
          exact ⟨h2.1, h1.2.trans h2.2⟩
        have HADD : Hid (Calls Try.prog 50 #[.pointer (some ⟨T, 0, none⟩), .int .i64 (k0 : Nat), .int .i64 (j : Nat)] ((V2.setCell ⟨P, 11, none⟩ (.int .i64 (k0 : Nat))).setCell ⟨P, 12, none⟩ (.int .i64 ((u : Int) + (j : Int)))) (AdPost B ((V2.setCell ⟨P, 11, none⟩ (.int .i64 (k0 : Nat))).setCell ⟨P, 12, none⟩ (.int .i64 ((u : Int) + (j : Int)))) T M ((fillT s.t s.op).setE k0 (1, 0)) k0 (1, 0 + j))) :=
          tbAdd_any HSM.out.1.tb (st := 1) (us := 0) (by unfold TbS.setE; simp) (by simp) (by omega)
        go_wp2_with fail
        refine HADD.out.mono ?_
        rintro _ V3 ⟨rfl, hT3, hO3⟩
        obtain ⟨hA, ⟨t0, t1⟩, r0, r1, z0, z1⟩ := HEND.out V3 _ HTT.out (HSM.out.1.tab hO3 hT3) ((HO2.out.trans (HSM.out.2.mono fun g e => .inl e)).trans (hO3.mono fun g e => .inr e))
        have HA := Lib.hid hA
        clear hT3 hO3 hA HEND HADD HSM c10 c11 c12 z11 z12
        go_upto_region 26 with (fail)
        go_wp2
        obtain ⟨f0, f1⟩ := box2_set (v0 := .int .i64 ((a0 : Int) + (u : Int))) (v1 := .int .i64 (13 + (n1 : Int))) r0 r1
        refine bodyPost_ret (results_addr rfl _ _ _ _ _ rfl f0 f1) rfl ?_
        exact HPOST.out V3 HA.out
end
end Go.Proofs.Ytlmgihnnphmmhaa
