/- The laws' known. Helpers for the laws' walks: a boxed shape of whatever numbers; the loop of puts. -/
import Derived.Test.YtlmgihnnphmmhaaRhZ
import Derived.Test.YtlmgihnnphmmhaaMM
import Derived.Lib.SlBytesConst
namespace Go.Proofs.Ytlmgihnnphmmhaa
open Go.RowKit
set_option linter.unusedVariables false
set_option linter.unusedSimpArgs false

section
variable {B : Nat} {w w' : World} {P D T M : Nat} {O S : Nat → Prop} {s : StS}
set_option maxRecDepth 100000 in
set_option maxHeartbeats 2000000 in
/-- Get at a place that is none. -/
theorem stGetArg_any (h : StAt B w P D T M O s) {a n : Int} (HR0 : ∀ w', Calls Try.prog 36 #[s.c.val, addrV a n] w' fun e w'' => e = .returned (.bool false) ∧ Below w'.heap.size w' w'') :
    Calls Try.prog 14 #[.pointer (some ⟨P, 0, none⟩), addrV a n] w fun e w' => e = .returned (.tuple #[.slice none 0 0, .int .i64 1]) ∧ Below w.heap.size w w' := by
  have HRT := Lib.hid HR0
  have l1 := h.lts.1
  have hbx := h.bx
  clear HR0
  obtain ⟨q0, q1, q2, q3, q4, q5, q6, q7, q8⟩ := hbx
  clear h
  unfold Cfg.val at HRT
  unfold addrV at HRT ⊢
  have HMD := Lib.hid (addr_made w a n)
  have HB : Hid (Below w.heap.size w (w.alloc (.cells #[.int .i64 a, .int .i64 n] 30))) := (Below.refl _ _).alloc (Nat.le_refl _) _
  go_enter Try.func14, Try.ntmps14
  go_upto_region 1 with (fail)
  refine wp_forget (fun W => ∃ g : Up w, W = g.world ∧ g.world.cell? ⟨w.heap.size, 0, none⟩ = some (.int .i64 a) ∧ g.world.cell? ⟨w.heap.size, 1, none⟩ = some (.int .i64 n) ∧ w.heap.size < g.world.heap.size) ⟨⟨_, HB.out⟩, rfl, HMD.out.1, HMD.out.2, by simp⟩ ?_
  clear HMD HB
  rintro _ ⟨g, rfl, t0, t1, lg⟩
  have lP : P < g.world.heap.size := by omega
  have HG := Lib.hid g.h
  refine wp_region_up (by kernel_rfl) (by kernel_rfl) ?_
  repeat (go_big_quiet_step (first | (go_at_call 36; exact Calls.up_of (HRT.out _))))
  refine wpQuiet_nil ?_
  rintro _ ⟨g2, rfl⟩
  have HF : Hid (Below w.heap.size w g2.world) := below_upto HG.out g2.h (Nat.le_refl _)
  go_wp2
  go_ret2
  exact ⟨rfl, HF.out⟩
end
def hello : Bytes := [104, 101, 108, 108, 111]
theorem hello_by (w : World) : SBy (w.alloc (.cells #[.int .u8 104, .int .u8 101, .int .u8 108, .int .u8 108, .int .u8 111] 5 (5, 6))) (some ⟨w.heap.size, 0, none⟩) 5 hello := by
  have b1 := heap_alloc_new w (.cells #[.int .u8 104, .int .u8 101, .int .u8 108, .int .u8 108, .int .u8 111] 5 (5, 6))
  refine ⟨rfl, fun _ => ⟨w.heap.size, 0, rfl, by simp, fun k hk => ?_⟩⟩
  rw [Nat.zero_add, cell_of_row _ _ _ _ _ _ b1]
  match k, hk with
  | 0, _ => rfl
  | 1, _ => rfl
  | 2, _ => rfl
  | 3, _ => rfl
  | 4, _ => rfl
theorem hello_n : 13 ≤ (putF hello).length ∧ (putF hello).length ≤ 19 ∧ secs 128 (putF hello).length = 1 := by
  have h1 := putF_le hello
  have h2 : hello.length = 5 := rfl
  have h3 := putF_length hello
  have h4 : (putF hello).length ≤ 19 := by omega
  have h5 : 13 ≤ (putF hello).length := by omega
  refine ⟨h5, h4, ?_⟩
  have h6 : secs 128 (putF hello).length ≤ 1 := secs_le (by omega) (by omega)
  have h7 := secs_pos (z := 128) (n := (putF hello).length) (by omega) (by omega)
  omega
theorem room0 (c : Cfg) (h : c.Ok) (n : Nat) : Room (wo0 c (fun _ => false)).s n 0 0 := by
  refine .inr ⟨(fun k e => by cases e), ⟨?_, ?_, fun j hj => by omega⟩, rfl⟩
  · show 0 < c.segs
    have := h.hs
    omega
  · show (tbF c.segs (fun _ => false) c.segs).st 0 = 0
    unfold TbS.st tbF
    simp
set_option maxRecDepth 100000 in
set_option maxHeartbeats 4000000 in
theorem known9_any (w : World) : Calls Try.prog 10 #[] w fun e w' => e = .returned (.bool true) ∧ Below w.heap.size w w' := by
  have HSH : Hid (∀ w', Calls Try.prog 40 #[] w' fun e w'' => e = .returned shape9.val ∧ Below w'.heap.size w' w'') := fun w' => shape9_any w'
  have HBG : Hid (∀ w', Calls Try.prog 12 #[shape9.val] w' (BgPost (fun _ => false) shape9 w')) := fun w' => begun_any w' shape9_ok
  go_enter Try.func10, Try.ntmps10
  refine wp_upW (W := w) fun g => ?_
  go_wp2_with fail
  refine calls_upW (HSH.out _) fun g => ?_
  go_wp2_with fail
  refine (HBG.out _).mono ?_
  rintro _ w1 ⟨Wb, rfl, D, P, T, M, O, vA, vL, hm, hi⟩
  have HM := Lib.hid hm
  have HI := Lib.hid hi
  have HB1 : Hid (Below w.heap.size w w1) := below_upto g.h hm.bel (Nat.le_refl _)
  have c10 := hm.c10
  have lW := hm.lts.1
  clear hm hi HSH HBG
  obtain ⟨hN1, hN2, hN3⟩ := hello_n
  obtain ⟨N, hN⟩ : ∃ N, N = (putF hello).length := ⟨_, rfl⟩
  have HNN := Lib.hid hN
  rw [← hN] at hN1 hN2 hN3
  have HN3 := Lib.hid hN3
  clear hN hN3
  have hcv := Lib.run_convert_bytes_const (P := Try.prog) w1 28 5 #[.int .u8 104, .int .u8 101, .int .u8 108, .int .u8 108, .int .u8 111] 5 5 Try.underlying28 Try.underlying5
  have HPT : Hid (Calls Try.prog 13 #[.pointer (some ⟨P, 0, none⟩), .slice (some ⟨w1.heap.size, 0, none⟩) 5 5] (w1.alloc (.cells #[.int .u8 104, .int .u8 101, .int .u8 108, .int .u8 108, .int .u8 111] 5 (5, 6))) (PtPost g.world.heap.size (w1.alloc (.cells #[.int .u8 104, .int .u8 101, .int .u8 108, .int .u8 108, .int .u8 111] 5 (5, 6))) P D T M O (wo0 shape9 (fun _ => false)).s hello 0 0)) :=
    stPutOk_any (HM.out.up ((Below.refl _ _).alloc (Nat.le_refl _) _)).st (hello_by w1) (Nat.le_refl _) (by omega) (by rw [← HNN.out]; show secs 128 N ≤ 3; rw [HN3.out]; omega) (room0 shape9 shape9_ok _) rfl (by show (0 : Nat) ≤ 900000; omega)
  have hi2 := (HI.out.put (b := ⟨some ⟨w1.heap.size, 0, none⟩, 5, 5, hello⟩) HM.out.st.ok (k := 0) (u := 0) (room0 shape9 shape9_ok _) (fun k e he => ⟨(HM.out.st.tb.ok k e he).1, (HM.out.st.tb.ok k e he).2.1⟩) (by show (5 : Nat) ≤ 65536; omega) (by rw [← HNN.out]; show secs 128 N ≤ 3; rw [HN3.out]; omega)).1
  unfold PtPost at HPT
  obtain ⟨s', hs'⟩ : ∃ s', s' = (wo0 shape9 (fun _ => false)).s.put ((wo0 shape9 (fun _ => false)).s.d.putN (2 + (wo0 shape9 (fun _ => false)).s.c.journal + 0 * (wo0 shape9 (fun _ => false)).s.c.seg + 0) (padF (wo0 shape9 (fun _ => false)).s.c.z (putF hello)) (secs (wo0 shape9 (fun _ => false)).s.c.z (putF hello).length)) 0 0 (secs (wo0 shape9 (fun _ => false)).s.c.z (putF hello).length) := ⟨_, rfl⟩
  have hsc : s'.c = shape9 := by rw [hs']; rfl
  have HSC := Lib.hid hsc
  rw [← hs', ← HNN.out] at HPT
  simp only at hi2
  rw [← hs', ← HNN.out] at hi2
  have HI2 := Lib.hid hi2
  have HPT2 : Hid (Calls Try.prog 13 #[.pointer (some ⟨P, 0, none⟩), .slice (some ⟨w1.heap.size, 0, none⟩) 5 5] (w1.alloc (.cells #[.int .u8 104, .int .u8 101, .int .u8 108, .int .u8 108, .int .u8 111] 5 (5, 6))) fun e w' => e = .returned (.tuple #[.agg #[.int .i64 6, .int .i64 (N : Nat)], .int .i64 0]) ∧ ∃ O', StAt g.world.heap.size w' P D T M O' s' ∧ (∀ h, O' h → O h ∨ (w1.alloc (.cells #[.int .u8 104, .int .u8 101, .int .u8 108, .int .u8 108, .int .u8 111] 5 (5, 6))).heap.size ≤ h) ∧ Off (fun g => g = P ∨ g = M ∨ O g) (w1.alloc (.cells #[.int .u8 104, .int .u8 101, .int .u8 108, .int .u8 108, .int .u8 111] 5 (5, 6))) w') := HPT.out.mono fun e w' ⟨he, hr⟩ => ⟨he, hr⟩
  clear hi2 hs' hsc HPT
  go_wp2_with fail
  refine HPT2.out.mono ?_
  rintro _ V1 ⟨rfl, O', hst, hO', hoff⟩
  have hm1 : WoM g.world V1 Wb D P T M O' vA vL ⟨s', [], []⟩ := (HM.out.up ((Below.refl _ _).alloc (Nat.le_refl _) _)).putted HSC.out hst hO' hoff
  have HM1 := Lib.hid hm1
  clear hst hO' hoff hm1 HPT2 c10 lW hcv
  go_upto_region 5 with (fail)
  refine wp_forget (fun V => WoM g.world V Wb D P T M O' vA vL ⟨s', [], []⟩ ∧ V.cell? ⟨V1.heap.size, 0, none⟩ = some (.int .i64 6) ∧ V.cell? ⟨V1.heap.size, 1, none⟩ = some (.int .i64 (N : Nat)) ∧ V1.heap.size < V.heap.size) ⟨HM1.out.up ((Below.refl _ _).alloc (Nat.le_refl _) _), (addr_made V1 6 N).1, (addr_made V1 6 N).2, by simp⟩ ?_
  have hab0 := HM1.out.lts.1
  have hab1 := HM1.out.st.lts.2.2.2
  obtain ⟨ab, hab⟩ : ∃ ab, ab = V1.heap.size := ⟨_, rfl⟩
  rw [← hab] at hab0 hab1 ⊢
  clear HM1 hab
  rintro W ⟨hm, t0, t1, lab⟩
  have HMW := Lib.hid hm
  have c10 := hm.c10
  have lW := hm.lts.1
  clear hm
  refine wp_region_up_tail 5 (by kernel_rfl) (by kernel_rfl) (by kernel_rfl) ?_
  simp only [List.take_succ_cons, List.take_zero, List.drop_succ_cons, List.drop_zero]
  repeat (go_big_quiet_step (fail))
  refine wpQuiet_nil ?_
  rintro _ ⟨h1, rfl⟩
  have HMG : Hid (WoM g.world h1.world Wb D P T M O' vA vL ⟨s', [], []⟩) := HMW.out.up h1.h
  obtain ⟨k, hpl⟩ := HI2.out.pl 0 6 N ⟨some ⟨w1.heap.size, 0, none⟩, 5, 5, hello⟩ rfl rfl
  have HGE : Hid (Calls Try.prog 14 #[.pointer (some ⟨P, 0, none⟩), .agg #[.int .i64 6, .int .i64 (N : Nat)]] h1.world (GtPost g.world.heap.size h1.world P D T M O' s' (hello, 0))) := by
    rw [← hpl.get HMG.out.st.ok (by show (5 : Nat) ≤ 65536; omega)]
    exact stGet_any HMG.out.st hpl.r HI2.out.on
  have t0' := (h1.h.cell (p := ⟨ab, 0, none⟩) lab).trans t0
  clear hpl
  go_wp2_with fail
  refine HGE.out.mono ?_
  rintro _ W2 ⟨A', n', c', rfl, ⟨wx, hF, _⟩, hst, hoff⟩
  have hm2 := HMG.out.read hst hoff
  have HM2 := Lib.hid hm2
  have HSB : Hid (SBy W2 A' n' hello) := hF.sby
  have t02 := (hoff.cell (p := ⟨ab, 0, none⟩) (Nat.lt_of_lt_of_le lab h1.size) (fun e => absurd (hab1 ab e).2 (Nat.lt_irrefl ab))).trans t0'
  have lab2 : ab < W2.heap.size := Nat.lt_of_lt_of_le (Nat.lt_of_lt_of_le lab h1.size) hoff.size
  have c102 := hm2.c10
  have lW2 := hm2.lts.1
  clear hF hst hoff hm2 HGE HMG c10 lW t0 t1 t0'
  have hok0 := HM2.out.st.ok.ok
  have hof0 : s'.c.of 0 = -1 := Cfg.of_lo (by have := hok0.h2; omega)
  have hrn0 : ∀ w', Calls Try.prog 36 #[s'.c.val, addrV 0 20] w' fun e w'' => e = .returned (.bool false) ∧ Below w'.heap.size w' w'' := fun w' => right_neg w' hok0 0 20 (by omega) hof0
  have HGA : Hid (Calls Try.prog 14 #[.pointer (some ⟨P, 0, none⟩), .agg #[.int .i64 0, .int .i64 20]] W2 fun e w' => e = .returned (.tuple #[.slice none 0 0, .int .i64 1]) ∧ Below W2.heap.size W2 w') :=
    stGetArg_any HM2.out.st (a := 0) (n := 20) hrn0
  clear hok0 hof0 hrn0
  go_wp2_with fail
  refine HGA.out.mono ?_
  rintro _ W3 ⟨rfl, hb3⟩
  have cv : (convert 28 9 (.slice A' n' c')).run Try.prog W3 = .ok (.string ⟨#[104, 101, 108, 108, 111]⟩) W3 := (HSB.out.up hb3).str c'
  have t03 := (hb3.cell (p := ⟨ab, 0, none⟩) lab2).trans t02
  have HF : Hid (Below w.heap.size w W3) := by
    have h4 := (HM2.out.up hb3).bel
    exact below_upto g.h h4 (Nat.le_refl _)
  clear hb3 t02 HSB HGA c102 lW2
  go_wp2
  go_ret
  exact ⟨rfl, HF.out⟩
end Go.Proofs.Ytlmgihnnphmmhaa
namespace Go.Proofs.Ytlmgihnnphmmhaa
open Go.RowKit
set_option linter.unusedVariables false
set_option linter.unusedSimpArgs false

/-- Nine numbers in memory. -/
def BoxI (w : World) (p : Nat) (a0 a1 a2 a3 a4 a5 a6 a7 a8 : Int) : Prop := w.cell? ⟨p, 0, none⟩ = some (.int .i64 a0) ∧ w.cell? ⟨p, 1, none⟩ = some (.int .i64 a1) ∧ w.cell? ⟨p, 2, none⟩ = some (.int .i64 a2) ∧ w.cell? ⟨p, 3, none⟩ = some (.int .i64 a3) ∧ w.cell? ⟨p, 4, none⟩ = some (.int .i64 a4) ∧ w.cell? ⟨p, 5, none⟩ = some (.int .i64 a5) ∧ w.cell? ⟨p, 6, none⟩ = some (.int .i64 a6) ∧ w.cell? ⟨p, 7, none⟩ = some (.int .i64 a7) ∧ w.cell? ⟨p, 8, none⟩ = some (.int .i64 a8)
theorem BoxI.made (w : World) (a0 a1 a2 a3 a4 a5 a6 a7 a8 : Int) : BoxI (w.alloc (.cells #[.int .i64 a0, .int .i64 a1, .int .i64 a2, .int .i64 a3, .int .i64 a4, .int .i64 a5, .int .i64 a6, .int .i64 a7, .int .i64 a8] 23)) w.heap.size a0 a1 a2 a3 a4 a5 a6 a7 a8 := by
  have b1 := heap_alloc_new w (.cells #[.int .i64 a0, .int .i64 a1, .int .i64 a2, .int .i64 a3, .int .i64 a4, .int .i64 a5, .int .i64 a6, .int .i64 a7, .int .i64 a8] 23)
  unfold BoxI
  refine ⟨?_, ?_, ?_, ?_, ?_, ?_, ?_, ?_, ?_⟩ <;> (rw [cell_of_row _ _ _ _ _ _ b1]; rfl)
/-- Is it a right, small shape? -/
def FitsP (a0 a1 a2 a3 a4 a5 a6 a7 a8 : Int) : Prop := ∃ c : Cfg, c.Ok ∧ c.sectors ≤ 3000 ∧ c.z ≤ 512 ∧ cfgI a0 a1 a2 a3 a4 a5 a6 a7 a8 = c.val
/-- The worlds of the laws behind i puts. -/
def PutsAt [Inhabited KSt] (f : Nat → Bool) (w0 : World) (Wb : Nat) (c : Cfg) (i : Nat) (wr : World) : Prop :=
  ∃ x, WoAt f w0 wr Wb x ∧ x.s.c = c ∧ x.s.d.pend.length ≤ i * 4096 ∧ x.ad.length ≤ i
section
variable [Inhabited KSt] {f : Nat → Bool} {w0 w : World} {Wb : Nat} {x : WoS}
theorem put9_any (h : WoAt f w0 w Wb x) {b : BArg} (hb : b.In w0) (hn : b.n ≤ 65536) (hfs : x.s.c.sectors ≤ 3000) (hfz : x.s.c.z ≤ 512) (hpn : x.s.d.pend.length ≤ 800000) (had : x.ad.length ≤ 100000) :
    Calls Try.prog 17 #[.pointer (some ⟨Wb, 0, none⟩), b.v] w (PuPost f w0 Wb x b) := by
  by_cases h1 : secs x.s.c.z (putF b.L).length ≤ x.s.c.seg
  · rcases room_cases x.s (secs x.s.c.z (putF b.L).length) with h2 | ⟨k, u, h2⟩
    · exact putNo_any h hb hn (.inr ⟨h1, h2⟩)
    · exact putYes_any h hb hn hfs hfz hpn had h1 h2
  · exact putNo_any h hb hn (.inl (by omega))
theorem PuPost.next {b : BArg} {e : Ending} {w' : World} (h : PuPost f w0 Wb x b e w') {c : Cfg} {i : Nat} (hc : x.s.c = c) (hp : x.s.d.pend.length ≤ i * 4096) (ha : x.ad.length ≤ i) : e = .returned (.bool true) ∧ PutsAt f w0 Wb c (i + 1) w' := by
  obtain ⟨he, x', h1, h2, h3, h4⟩ := h
  refine ⟨he, x', h1, h2.trans hc, by omega, ?_⟩
  rcases h4 with rfl | ⟨k, u, _, _, rfl⟩
  · omega
  · simp
    omega
theorem PutsAt.put {c : Cfg} {i : Nat} (h : PutsAt f w0 Wb c i w) {b : BArg} (hb : b.In w0) (hn : b.n ≤ 65536) (hfs : c.sectors ≤ 3000) (hfz : c.z ≤ 512) (hi : i ≤ 150) :
    Calls Try.prog 17 #[.pointer (some ⟨Wb, 0, none⟩), b.v] w fun e w' => e = .returned (.bool true) ∧ PutsAt f w0 Wb c (i + 1) w' := by
  obtain ⟨x, h1, h2, h3, h4⟩ := h
  exact (put9_any h1 hb hn (by rw [h2]; exact hfs) (by rw [h2]; exact hfz) (by omega) (by omega)).mono fun e w' hq => hq.next h2 h3 h4
theorem PutsAt.bel {c : Cfg} {i : Nat} (h : PutsAt f w0 Wb c i w) : Below w0.heap.size w0 w := by
  obtain ⟨x, ⟨D, P, T, M, O, vA, vL, hm, hi⟩, _⟩ := h
  exact hm.bel
theorem PutsAt.zero {c : Cfg} (h : WoAt f w0 w Wb (wo0 c f)) : PutsAt f w0 Wb c 0 w := ⟨_, h, rfl, Nat.zero_le _, Nat.zero_le _⟩
end
set_option maxRecDepth 100000 in
set_option maxHeartbeats 2000000 in
theorem plays_no (w : World) {a0 a1 a2 a3 a4 a5 a6 a7 a8 : Int} (h : ¬ FitsP a0 a1 a2 a3 a4 a5 a6 a7 a8) (v : Value) :
    Calls Try.prog 4 #[cfgI a0 a1 a2 a3 a4 a5 a6 a7 a8, v] w fun e w' => e = .returned (.bool true) ∧ Below w.heap.size w w' := by
  have HK : Hid (∀ w', Calls Try.prog 10 #[] w' fun e w'' => e = .returned (.bool true) ∧ Below w'.heap.size w' w'') := fun w' => known9_any w'
  have HF : Hid (∀ w', Calls Try.prog 11 #[cfgI a0 a1 a2 a3 a4 a5 a6 a7 a8] w' fun e w'' => e = .returned (.bool false) ∧ Below w'.heap.size w' w'') := fun w' => fits_false w' a0 a1 a2 a3 a4 a5 a6 a7 a8 h
  have HMD := Lib.hid (BoxI.made w a0 a1 a2 a3 a4 a5 a6 a7 a8)
  have HB : Hid (Below w.heap.size w (w.alloc (.cells #[.int .i64 a0, .int .i64 a1, .int .i64 a2, .int .i64 a3, .int .i64 a4, .int .i64 a5, .int .i64 a6, .int .i64 a7, .int .i64 a8] 23))) := (Below.refl _ _).alloc (Nat.le_refl _) _
  clear h
  unfold cfgI at *
  go_enter Try.func4, Try.ntmps4
  go_upto_region 1 with (fail)
  refine wp_forget (fun W => BoxI W w.heap.size a0 a1 a2 a3 a4 a5 a6 a7 a8 ∧ Below w.heap.size w W ∧ w.heap.size < W.heap.size) ⟨HMD.out, HB.out, by simp⟩ ?_
  clear HMD HB
  rintro W ⟨⟨q0, q1, q2, q3, q4, q5, q6, q7, q8⟩, hbW, lW⟩
  have HBW := Lib.hid hbW
  clear hbW
  refine wp_upW (W := W) fun g => ?_
  go_wp2_with fail
  refine calls_upW (HK.out _) fun g => ?_
  go_wp2_with fail
  refine calls_upW (HF.out _) fun g => ?_
  have HG : Hid (Below w.heap.size w g.world) := below_upto HBW.out g.h (Nat.le_refl _)
  go_wp2
  go_ret
  exact ⟨rfl, HG.out⟩
end Go.Proofs.Ytlmgihnnphmmhaa
