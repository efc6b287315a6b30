/- The laws' put, when a blob is put. -/
import Derived.Test.YtlmgihnnphmmhaaMM
namespace Go.Proofs.Ytlmgihnnphmmhaa
open Go.RowKit
set_option linter.unusedVariables false
set_option linter.unusedSimpArgs false

theorem addr_plain (G i : Nat) : (⟨G, 0, none⟩ : Addr).add i = ⟨G, i, none⟩ := by unfold Addr.add; split <;> simp_all
section
variable [Inhabited KSt] {f : Nat → Bool} {w0 w : World} {Wb : Nat} {x : WoS}
set_option maxRecDepth 100000 in
set_option maxHeartbeats 8000000 in
theorem putYes_any (h : WoAt f w0 w Wb x) {b : BArg} (hb : b.In w0) (hn : b.n ≤ 65536) (hfs : x.s.c.sectors ≤ 3000) (hfz : x.s.c.z ≤ 512) (hpn : x.s.d.pend.length ≤ 800000) (had : x.ad.length ≤ 100000) (hle : secs x.s.c.z (putF b.L).length ≤ x.s.c.seg) {k u : Nat} (hr : Room x.s (secs x.s.c.z (putF b.L).length) k u) :
    Calls Try.prog 17 #[.pointer (some ⟨Wb, 0, none⟩), b.v] w (PuPost f w0 Wb x b) := by
  obtain ⟨D, P, T, M, O, vA, vL, hm, hi⟩ := h
  have HM := Lib.hid hm
  have c10 := hm.c10
  have lW := hm.lts.1
  have hok := hm.st.ok.ok
  have htb : ∀ k e, x.s.t.ent k = some e → k < x.s.t.n ∧ 0 < e.1 := fun k e he => ⟨(hm.st.tb.ok k e he).1, (hm.st.tb.ok k e he).2.1⟩
  have hbl : b.L.length ≤ 65536 := by rw [hb.1.len]; exact hn
  obtain ⟨hi2, hrn, hdis⟩ := hi.put hm.st.ok hr htb hbl hle
  have hlf := left_put (d' := x.s.d.putN (2 + x.s.c.journal + k * x.s.c.seg + u) (padF x.s.c.z (putF b.L)) (secs x.s.c.z (putF b.L).length)) hm.st.ok hr htb hle
  have hll := left_le hm.st.ok hm.st.tb.bn
  have HLF : Hid (∀ g : Up w, Calls Try.prog 28 #[.pointer (some ⟨P, 0, none⟩)] g.world fun e w' => e = .returned (.int .i64 (x.s.left : Nat)) ∧ Below g.world.heap.size g.world w') := fun g => stLeft_any (hm.st.up g.h)
  have HPT : Hid (∀ g : Up w, Calls Try.prog 13 #[.pointer (some ⟨P, 0, none⟩), .slice b.A b.n b.c] g.world (PtPost w0.heap.size g.world P D T M O x.s b.L k u)) := fun g => stPutOk_any (hm.st.up g.h) ((hb.1.up hm.bel).up g.h) hb.2 hn hle hr hi.on (by omega)
  have HPD : Hid (∀ s' : StS, s' = x.s.put (x.s.d.putN (2 + x.s.c.journal + k * x.s.c.seg + u) (padF x.s.c.z (putF b.L)) (secs x.s.c.z (putF b.L).length)) k u (secs x.s.c.z (putF b.L).length) → s'.d.pend.length ≤ x.s.d.pend.length + 4096 ∧ s'.c = x.s.c ∧ (s'.t.us k = (takeT x.s k).us k + secs x.s.c.z (putF b.L).length)) := fun s' e => by
    rw [e]
    refine ⟨?_, rfl, ?_⟩
    · show (x.s.d.putN _ _ _).pend.length ≤ _
      rw [putN_pend]
      have := hok.h3
      omega
    · show ((takeT x.s k).setE k (1, _)).us k = _
      unfold TbS.us TbS.setE
      simp
  have HRC := Lib.hid (And.intro hr hle)
  have HN := Lib.hid (Eq.refl (putF b.L).length)
  obtain ⟨s', hs'⟩ : ∃ s', s' = x.s.put (x.s.d.putN (2 + x.s.c.journal + k * x.s.c.seg + u) (padF x.s.c.z (putF b.L)) (secs x.s.c.z (putF b.L).length)) k u (secs x.s.c.z (putF b.L).length) := ⟨_, rfl⟩
  have HS' := Lib.hid hs'
  obtain ⟨hpd, hsc, husk⟩ := HPD.out s' hs'
  unfold PtPost at HPT
  rw [← hs'] at hi2 hlf HPT
  obtain ⟨a, ha⟩ : ∃ a, a = 2 + x.s.c.journal + k * x.s.c.seg + u := ⟨_, rfl⟩
  have HA := Lib.hid ha
  rw [← ha] at hi2 hrn hdis HPT
  obtain ⟨N, hN⟩ : ∃ N, N = (putF b.L).length := ⟨_, rfl⟩
  have HNN := Lib.hid hN
  rw [← hN] at hi2 hrn hdis HPT husk hlf
  obtain ⟨n, hnn⟩ : ∃ n, n = secs x.s.c.z N := ⟨_, rfl⟩
  have HNS := Lib.hid hnn
  have HI2 := Lib.hid hi2
  have HRN := Lib.hid hrn
  rw [← hnn] at hdis husk hlf
  have hrN := hrn.hn
  have hNl : n ≤ 4096 := by have := hrn.hi; have := hok.h3; have := hrn.lo; omega
  have hal : a + n ≤ 65536 := by
    have h1 := hrn.hi
    have h2 := hok.room
    have h3 := hok.h0
    have h4 : (k + 1) * x.s.c.seg ≤ x.s.c.segs * x.s.c.seg := Nat.mul_le_mul_right _ hrn.hk
    rw [Nat.add_mul, Nat.one_mul] at h4
    omega
  have HRT : Hid (∀ w', Calls Try.prog 37 #[x.s.c.val, addrV a N] w' fun e w'' => e = .returned (.bool true) ∧ Below w'.heap.size w' w'') := fun w' => right9_true w' hok hfs hfz hrn
  have HSE : Hid (∀ w', Calls Try.prog 15 #[x.s.c.val, addrV a N] w' fun e w'' => e = .returned (.int .i64 (n : Nat)) ∧ Below w'.heap.size w' w'') := fun w' => by rw [hnn]; exact sectors9_any w' hok a N (by omega)
  have HSB : Hid (∀ w', Calls Try.prog 44 #[x.s.c.val, addrV a N] w' fun e w'' => e = .returned (.int .i64 (n : Nat)) ∧ Below w'.heap.size w' w'') := fun w' => by rw [hnn]; exact sectors_any w' hok a N (by omega) (by omega)
  have HOF : Hid (∀ w', Calls Try.prog 29 #[x.s.c.val, .int .i64 (a : Nat)] w' fun e w'' => e = .returned (.int .i64 (k : Nat)) ∧ Below w'.heap.size w' w'') := fun w' => by
    have := rOf_any w' hok (a : Int) (by omega)
    rwa [hrn.of hok] at this
  have HDS := Lib.hid hdis
  have HXL : Hid (∀ (j : Nat) (p : Nat × Nat), x.ad[j]? = some p → (p.2 ≤ 1048576 ∧ p.1 ≤ 65536 ∧ secs x.s.c.z p.2 ≤ 4096)) := fun j p hp => by
    have hj : j < x.bl.length := by rw [← hi.len]; exact (List.getElem?_eq_some_iff.1 hp).1
    obtain ⟨k0, hq⟩ := hi.pl j p.1 p.2 x.bl[j] hp (List.getElem?_eq_getElem hj)
    have h1 := hq.r.hn
    have h2 := hq.r.hi
    have h3 := hok.h3
    have h4 := hq.r.lo
    have h5 := hok.room
    have h6 := hok.h0
    have h7 : (k0 + 1) * x.s.c.seg ≤ x.s.c.segs * x.s.c.seg := Nat.mul_le_mul_right _ hq.r.hk
    rw [Nat.add_mul, Nat.one_mul] at h7
    omega
  have HOK := Lib.hid hok
  have HB := Lib.hid hb
  have HBL := Lib.hid hbl
  unfold Cfg.val at HRT HSE HSB HOF
  unfold addrV at HRT HSE HSB HPT
  unfold BArg.v
  generalize x.s.left = lf at *
  clear hm hi hb hi2 hrn hdis hs' ha hN hnn htb hok HPD hr hle hbl
  go_enter Try.func17, Try.ntmps17
  refine wp_upW (W := w) fun g => ?_
  go_wp2_with fail
  refine calls_upW (HLF.out _) fun g => ?_
  go_wp2_with fail
  refine (HPT.out g).mono ?_
  rintro _ W2 ⟨rfl, O', hst, hO', hoff⟩
  have hwm : WoM w0 W2 Wb D P T M O' vA vL ⟨s', x.ad, x.bl⟩ := (HM.out.up g.h).putted hsc hst hO' hoff
  have HWM := Lib.hid hwm
  have lW2 := hwm.lts
  clear hst hO' hoff HLF HPT HM c10 lW hwm g
  go_upto_region 10 with (fail)
  refine wp_forget (fun V => WoM w0 V Wb D P T M O' vA vL ⟨s', x.ad, x.bl⟩ ∧ V.cell? ⟨W2.heap.size, 0, none⟩ = some (.int .i64 (a : Nat)) ∧ V.cell? ⟨W2.heap.size, 1, none⟩ = some (.int .i64 (N : Nat)) ∧ W2.heap.size < V.heap.size) ⟨HWM.out.up ((Below.refl _ _).alloc (Nat.le_refl _) _), (addr_made W2 a N).1, (addr_made W2 a N).2, by simp⟩ ?_
  obtain ⟨ab, hab⟩ : ∃ ab, ab = W2.heap.size := ⟨_, rfl⟩
  rw [← hab] at lW2 ⊢
  clear hab HWM W2
  rintro W ⟨hm, t0, t1, lab⟩
  have HM := Lib.hid hm
  have hok2 := hm.st.ok.ok
  have hbx : BoxC W Wb x.s.c := by have := hm.bx; rw [hsc] at this; exact this
  obtain ⟨q0, q1, q2, q3, q4, q5, q6, q7, q8⟩ := hbx
  have c10 := hm.c10
  have c11 := hm.c11
  have lW := hm.lts.1
  obtain ⟨Aa, ca, hva⟩ : ∃ Aa ca, vA = .slice Aa x.ad.length ca := by
    rcases hm.rA.2 with ⟨hh, h0⟩ | ⟨g, cap, cur, hh, _⟩
    · exact ⟨_, _, by rw [hh, h0]⟩
    · exact ⟨_, _, hh⟩
  have HLF : Hid (∀ g : Up W, Calls Try.prog 28 #[.pointer (some ⟨P, 0, none⟩)] g.world fun e w' => e = .returned (.int .i64 (s'.left : Nat)) ∧ Below g.world.heap.size g.world w') := fun g => stLeft_any (hm.st.up g.h)
  have HUS : Hid (∀ g : Up W, Calls Try.prog 20 #[.pointer (some ⟨T, 0, none⟩), .int .i64 (k : Nat)] g.world fun e w' => e = .returned (.int .i64 (s'.t.us k : Nat)) ∧ Below g.world.heap.size g.world w') := fun g => (tbUsed_any (hm.st.up g.h).tb (k := k) (by have := HRN.out.hk; have := HOK.out.room; omega)).mono fun e w' ⟨h1, h2⟩ => by rw [h2]; exact ⟨h1, Below.refl _ _⟩
  generalize s'.left = l2 at *
  have c11' : W.cell? ⟨Wb, 11, none⟩ = some (.slice Aa x.ad.length ca) := by rw [c11, hva]
  have HVA := Lib.hid hva
  clear hm c11 hva hok2
  have v1 : IntKind.i64.wrap ((lf : Int) - (n : Int)) = (lf : Int) - (n : Int) := IntWalk.i64_in _ (by omega)
  have i1 : ¬ (lf : Int) - (n : Int) < (l2 : Int) := by omega
  have v2 : IntKind.i64.wrap ((a : Int) + (n : Int)) = (a : Int) + (n : Int) := IntWalk.i64_in _ (by omega)
  refine wp_region_up (by kernel_rfl) (by kernel_rfl) ?_
  repeat (go_big_quiet_step (first | (go_at_call 37; exact Calls.up_of (HRT.out _)) | (go_at_call 44; exact Calls.up_of (HSB.out _)) | (go_at_call 15; exact Calls.up_of (HSE.out _)) | (go_at_call 28; exact Calls.up_of (HLF.out _))))
  refine wpQuiet_nil ?_
  rintro _ ⟨g, rfl⟩
  go_wp2_with fail
  go_loopw [8] (fun i wr => ∃ (j : Nat) (g : Up W), j ≤ x.ad.length ∧ i = .int .i64 (j : Nat) ∧ wr = g.world) (fun i _ => x.ad.length - (intOf i).toNat)
  case atStart => exact ⟨0, g, Nat.zero_le _, rfl, rfl⟩
  case round =>
    obtain ⟨j, g, hj, rfl, rfl⟩ := hrel
    by_cases hlt : j < x.ad.length
    · obtain ⟨⟨a', N'⟩, hp⟩ : ∃ p, x.ad[j]? = some p := ⟨_, List.getElem?_eq_getElem hlt⟩
      obtain ⟨hN', ha', hn'⟩ := HXL.out j _ hp
      have hdj := HDS.out j a' N' hp
      obtain ⟨G, cap, hG, hcap, _⟩ := World.ownsRow.form HM.out.rA (show 0 < x.ad.length by omega)
      have k0 := World.ownsRow.cells HM.out.rA (g := G) (by rw [hG]; rfl) (j * 2) _ (adCells_at _ j _ hp).1
      have k1 := World.ownsRow.cells HM.out.rA (g := G) (by rw [hG]; rfl) (j * 2 + 1) _ (adCells_at _ j _ hp).2
      have lG := (HM.out.lts.2.1 G (by rw [hG]; rfl)).2
      rw [show (⟨G, 0, none⟩ : Addr).add (j * 2) = ⟨G, j * 2, none⟩ from addr_plain _ _] at k0
      rw [show (⟨G, 0, none⟩ : Addr).add (j * 2 + 1) = ⟨G, j * 2 + 1, none⟩ from addr_plain _ _] at k1
      rw [HVA.out] at hG
      injection hG with e1 e2 e3
      subst e1
      have HSJ : Hid (∀ w', Calls Try.prog 15 #[x.s.c.val, addrV a' N'] w' fun e w'' => e = .returned (.int .i64 (secs x.s.c.z N' : Nat)) ∧ Below w'.heap.size w' w'') := fun w' => sectors9_any w' HOK.out a' N' (by omega)
      unfold Cfg.val addrV at HSJ
      obtain ⟨n', hnn'⟩ : ∃ n', secs x.s.c.z N' = n' := ⟨_, rfl⟩
      rw [hnn'] at HSJ hdj hn'
      clear hp hnn' e2 e3 hcap
      have u0 : (j : Int) < (x.ad.length : Int) := by omega
      have u1 : IntKind.i64.wrap ((a' : Int) + (n' : Int)) = (a' : Int) + (n' : Int) := IntWalk.i64_in _ (by omega)
      go_upto_region 15 with (fail)
      by_cases hg1 : a < a' + n'
      · have b1 : (a : Int) < (a' : Int) + (n' : Int) := by omega
        have b2 : ¬ (a' : Int) < (a : Int) + (n : Int) := by omega
        refine wp_region_upW (by kernel_rfl) (by kernel_rfl) ?_
        repeat (go_big_quiet_step (first | (go_at_call 15; first | (with_reducible exact Calls.up_of (HSE.out _)) | (with_reducible exact Calls.up_of (HSJ.out _)))))
        refine wpQuiet_nil ?_
        rintro _ ⟨g, rfl⟩
        go_wp2
        go_roundw
        case rel => exact ⟨j + 1, g, by omega, by go_num, rfl⟩
        case measure => simp [intOf]; omega
      · have b1 : ¬ (a : Int) < (a' : Int) + (n' : Int) := by omega
        refine wp_region_upW (by kernel_rfl) (by kernel_rfl) ?_
        repeat (go_big_quiet_step (first | (go_at_call 15; first | (with_reducible exact Calls.up_of (HSE.out _)) | (with_reducible exact Calls.up_of (HSJ.out _)))))
        refine wpQuiet_nil ?_
        rintro _ ⟨g, rfl⟩
        go_wp2
        go_roundw
        case rel => exact ⟨j + 1, g, by omega, by go_num, rfl⟩
        case measure => simp [intOf]; omega
    · have hje : ¬ (j : Int) < (x.ad.length : Int) := by omega
      clear HXL HDS
      go_upto_region 17 with (fail)
      have HMG : Hid (WoM w0 g.world Wb D P T M O' vA vL ⟨s', x.ad, x.bl⟩) := HM.out.up g.h
      have HMD : Hid (WoM w0 (g.world.alloc (.cells #[.int .i64 (a : Nat), .int .i64 (N : Nat)] 30)).drew Wb D P T M O' vA vL ⟨s', x.ad, x.bl⟩) := HM.out.up (g.h.alloc g.h.size _).drew
      have hgs : W.heap.size ≤ g.world.heap.size := g.h.size
      have HRA : Hid ((g.world.alloc (.cells #[.int .i64 (a : Nat), .int .i64 (N : Nat)] 30)).drew.ownsRow w0.heap.size 30 2 (.slice Aa x.ad.length ca) x.ad.length (adCells x.ad)) := by rw [← HVA.out]; exact HMD.out.rA
      have HBX : Hid ((g.world.alloc (.cells #[.int .i64 (a : Nat), .int .i64 (N : Nat)] 30)).drew.cell? ⟨g.world.heap.size, 0, none⟩ = some (.int .i64 (a : Nat)) ∧ (g.world.alloc (.cells #[.int .i64 (a : Nat), .int .i64 (N : Nat)] 30)).drew.cell? ⟨g.world.heap.size, 1, none⟩ = some (.int .i64 (N : Nat))) := addr_made g.world a N
      have HVB : Hid (∀ g, (Value.slice Aa x.ad.length ca).ownBlock = some g → vA.ownBlock = some g) := fun g h => by rw [HVA.out]; exact h
      have HW0 : w0.heap.size ≤ (g.world.alloc (.cells #[.int .i64 (a : Nat), .int .i64 (N : Nat)] 30)).drew.heap.size := HMD.out.bel.size
      have hadl : x.ad.length ≤ 1048576 := by omega
      have lWg : Wb < g.world.heap.size := by omega
      have labg : ab < g.world.heap.size := by omega
      have zW : W.frozen? ⟨Wb, 11, none⟩ = false := HM.out.zf 11
      go_region_law (refine step_appA (by rfl) _ _ (by rfl) w0.heap.size (.slice Aa x.ad.length ca) x.ad g.world.heap.size a N (by rfl) HRA.out (by rfl) HBX.out.1 HBX.out.2 HW0 hadl ?_; rintro v' w5 h5 hg5 hat ⟨A5, n5, c5v, rfl⟩; have HG5 : Hid ((g.world.alloc (.cells #[.int .i64 (a : Nat), .int .i64 (N : Nat)] 30)).drew.grownBy w5 vA.ownBlock) := (by rw [HVA.out]; exact hg5); have HAT : Hid ((Value.slice A5 n5 c5v).ownBlock = vA.ownBlock ∨ (Value.slice A5 n5 c5v).ownBlock = some (g.world.alloc (.cells #[.int .i64 (a : Nat), .int .i64 (N : Nat)] 30)).drew.heap.size) := (by rw [HVA.out]; exact hat); have H5 := Lib.hid h5; have c55 := ((grown_off HG5.out).cell (p := ⟨Wb, 11, none⟩) HMD.out.lts.1 (fun e => (HMD.out.dA Wb e).2.2.2.2 rfl)).trans HMD.out.c11; have z55 := ((grown_off HG5.out).frozen (p := ⟨Wb, 11, none⟩) HMD.out.lts.1 (fun e => (HMD.out.dA Wb e).2.2.2.2 rfl)).trans (HMD.out.zf 11); clear h5 hg5 hat)
      all_goals
        obtain ⟨hmA, hoA⟩ := HMD.out.appA H5.out HG5.out HAT.out
        have HMA := Lib.hid hmA
        have nab : ¬ (vA.ownBlock = some ab ∨ ab = Wb) := fun e => by
          rcases e with e | e
          · have := (lW2.2.1 ab e).2; omega
          · have := lW2.1; omega
        have HBD : Hid (Below W.heap.size W (g.world.alloc (.cells #[.int .i64 (a : Nat), .int .i64 (N : Nat)] 30)).drew) := (g.h.alloc g.h.size _).drew
        have labD : ab < (g.world.alloc (.cells #[.int .i64 (a : Nat), .int .i64 (N : Nat)] 30)).drew.heap.size := Nat.lt_of_lt_of_le lab HBD.out.size
        have HT6 : Hid ((w5.setCell ⟨Wb, 11, none⟩ (.slice A5 n5 c5v)).cell? ⟨ab, 0, none⟩ = some (.int .i64 (a : Nat)) ∧ (w5.setCell ⟨Wb, 11, none⟩ (.slice A5 n5 c5v)).cell? ⟨ab, 1, none⟩ = some (.int .i64 (N : Nat)) ∧ ab < (w5.setCell ⟨Wb, 11, none⟩ (.slice A5 n5 c5v)).heap.size) :=
          ⟨(hoA.cell (p := ⟨ab, 0, none⟩) labD nab).trans ((HBD.out.cell (p := ⟨ab, 0, none⟩) lab).trans t0), (hoA.cell (p := ⟨ab, 1, none⟩) labD nab).trans ((HBD.out.cell (p := ⟨ab, 1, none⟩) lab).trans t1), Nat.lt_of_lt_of_le labD hoA.size⟩
        clear hmA hoA nab labD HLF HUS HRT HSB
        go_upto_region 18 with (fail)
        refine wp_forget (fun V => WoM w0 V Wb D P T M O' (.slice A5 n5 c5v) vL ⟨s', x.ad ++ [(a, N)], x.bl⟩ ∧ V.cell? ⟨ab, 0, none⟩ = some (.int .i64 (a : Nat)) ∧ V.cell? ⟨ab, 1, none⟩ = some (.int .i64 (N : Nat)) ∧ ab < V.heap.size) ⟨HMA.out, HT6.out⟩ ?_
        clear HMA HT6 HMD HMG HRA HBX HVB HW0 HG5 HAT H5 c55 z55 zW lWg labg HBD hgs t0 t1 lab q0 q1 q2 q3 q4 q5 q6 q7 q8 c10 c11' lW HM
        rintro W6 ⟨hm6, s0, s1, lab6⟩
        obtain ⟨AL, cL, hvl⟩ : ∃ AL cL, vL = .slice AL x.bl.length cL := by
          rcases hm6.rL.2 with ⟨hh, h0⟩ | ⟨g, cap, cur, hh, _⟩
          · exact ⟨_, _, by rw [hh, h0]⟩
          · exact ⟨_, _, hh⟩
        have HVL := Lib.hid hvl
        have c12 : W6.cell? ⟨Wb, 12, none⟩ = some (.slice AL x.bl.length cL) := by rw [hm6.c12, hvl]
        have lW6 : Wb < W6.heap.size := hm6.lts.1
        have HM6 := Lib.hid hm6
        have HV6 : Hid (∀ g, vL.ownBlock = some g → g < ab) := fun g hg => (lW2.2.2 g hg).2
        have HMB : Hid (WoM w0 (W6.alloc (.cells #[.slice b.A b.n b.c] 28)) Wb D P T M O' (.slice A5 n5 c5v) vL ⟨s', x.ad ++ [(a, N)], x.bl⟩) := hm6.up ((Below.refl _ _).alloc (Nat.le_refl _) _)
        have HRL : Hid ((W6.alloc (.cells #[.slice b.A b.n b.c] 28)).ownsRow w0.heap.size 28 1 (.slice AL x.bl.length cL) x.bl.length (x.bl.map BArg.v)) := by rw [← hvl]; exact HMB.out.rL
        have HB6 : Hid ((W6.alloc (.cells #[.slice b.A b.n b.c] 28)).cell? ⟨W6.heap.size, 0, none⟩ = some b.v) := (alloc_at W6 b.v 28).1
        have HW6 : w0.heap.size ≤ (W6.alloc (.cells #[.slice b.A b.n b.c] 28)).heap.size := HMB.out.bel.size
        have hbll : x.bl.length ≤ 1048576 := by have h1 := HI2.out.len; simp at h1; omega
        clear hm6 hvl
        go_wp2_with (at_builtin; go_must (refine wpList_appL rfl (.tmp 158) (.tmp 160) rfl w0.heap.size (.slice AL x.bl.length cL) x.bl b W6.heap.size rfl HRL.out rfl HB6.out HW6 hbll ?_); rintro v' w7 h7 hg7 hat7 ⟨A7, n7, c7, rfl⟩; have HG7 : Hid ((W6.alloc (.cells #[.slice b.A b.n b.c] 28)).grownBy w7 vL.ownBlock) := (by rw [HVL.out]; exact hg7); have HAT7 : Hid ((Value.slice A7 n7 c7).ownBlock = vL.ownBlock ∨ (Value.slice A7 n7 c7).ownBlock = some (W6.alloc (.cells #[.slice b.A b.n b.c] 28)).heap.size) := (by rw [HVL.out]; exact hat7); have H7 := Lib.hid h7; have c77 := ((grown_off HG7.out).cell (p := ⟨Wb, 12, none⟩) HMB.out.lts.1 (fun e => (HMB.out.dL Wb e).2.2.2.2 rfl)).trans HMB.out.c12; have z77 := ((grown_off HG7.out).frozen (p := ⟨Wb, 12, none⟩) HMB.out.lts.1 (fun e => (HMB.out.dL Wb e).2.2.2.2 rfl)).trans (HMB.out.zf 12); clear h7 hg7 hat7)
        obtain ⟨hmF, hoF⟩ := HMB.out.appL (b := b) ⟨HB.out, HBL.out⟩ H7.out HG7.out HAT7.out
        have nab : ¬ (vL.ownBlock = some ab ∨ ab = Wb) := fun e => by
          rcases e with e | e
          · have := HV6.out ab e; omega
          · have := lW2.1; omega
        have hb6 : Below W6.heap.size W6 (W6.alloc (.cells #[.slice b.A b.n b.c] 28)) := (Below.refl _ _).alloc (Nat.le_refl _) _
        have lab7 : ab < (W6.alloc (.cells #[.slice b.A b.n b.c] 28)).heap.size := Nat.lt_of_lt_of_le lab6 hb6.size
        refine wp_forget (fun V => WoM w0 V Wb D P T M O' (.slice A5 n5 c5v) (.slice A7 n7 c7) ⟨s', x.ad ++ [(a, N)], x.bl ++ [b]⟩ ∧ V.cell? ⟨ab, 0, none⟩ = some (.int .i64 (a : Nat)) ∧ V.cell? ⟨ab, 1, none⟩ = some (.int .i64 (N : Nat)) ∧ ab < V.heap.size)
          ⟨hmF, (hoF.cell (p := ⟨ab, 0, none⟩) lab7 nab).trans ((hb6.cell (p := ⟨ab, 0, none⟩) lab6).trans s0), (hoF.cell (p := ⟨ab, 1, none⟩) lab7 nab).trans ((hb6.cell (p := ⟨ab, 1, none⟩) lab6).trans s1), Nat.lt_of_lt_of_le lab7 hoF.size⟩ ?_
        clear hmF hoF nab hb6 lab7 HMB HRL HB6 HW6 HG7 HAT7 H7 c77 z77 c12 lW6 HM6 s0 s1 lab6
        rintro W8 ⟨hm8, s0, s1, lab8⟩
        have hbx8 : BoxC W8 Wb x.s.c := by have := hm8.bx; simp only at this; rw [hsc] at this; exact this
        obtain ⟨q0, q1, q2, q3, q4, q5, q6, q7, q8⟩ := hbx8
        have c10 := hm8.c10
        have lW8 := hm8.lts.1
        have HTB : Hid (∀ g : Up W8, Calls Try.prog 18 #[.pointer (some ⟨P, 0, none⟩)] g.world fun e w' => e = .returned (.pointer (some ⟨T, 0, none⟩)) ∧ Below g.world.heap.size g.world w') := fun g => (stTable_any (hm8.st.up g.h)).mono fun e w' ⟨h1, h2⟩ => by rw [h2]; exact ⟨h1, Below.refl _ _⟩
        have HUS : Hid (∀ g : Up W8, Calls Try.prog 20 #[.pointer (some ⟨T, 0, none⟩), .int .i64 (k : Nat)] g.world fun e w' => e = .returned (.int .i64 (s'.t.us k : Nat)) ∧ Below g.world.heap.size g.world w') := fun g => (tbUsed_any (hm8.st.up g.h).tb (k := k) (by have := HRN.out.hk; have := HOK.out.room; omega)).mono fun e w' ⟨h1, h2⟩ => by rw [h2]; exact ⟨h1, Below.refl _ _⟩
        have hun : n ≤ s'.t.us k := by omega
        have HF : Hid (∀ g : Up W8, PuPost f w0 Wb x b (.returned (.bool true)) g.world) := fun g => ⟨rfl, ⟨s', x.ad ++ [(a, N)], x.bl ++ [b]⟩, ⟨D, P, T, M, O', _, _, hm8.up g.h, HI2.out⟩, hsc, hpd, .inr ⟨k, u, HRC.out.1, HRC.out.2, by rw [HS'.out, HA.out, HNN.out]⟩⟩
        generalize s'.t.us k = us at *
        have u1 : (n : Int) ≤ (us : Int) := by omega
        clear hm8 husk
        refine wp_region_up (by kernel_rfl) (by kernel_rfl) ?_
        repeat (go_big_quiet_step (first | (go_at_call 18; exact Calls.up_of (HTB.out _)) | (go_at_call 29; exact Calls.up_of (HOF.out _)) | (go_at_call 20; exact Calls.up_of (HUS.out _)) | (go_at_call 15; exact Calls.up_of (HSE.out _))))
        refine wpQuiet_nil ?_
        rintro _ ⟨g, rfl⟩
        have HG := Lib.hid (HF.out g)
        go_wp2
        go_ret
        exact HG.out
end
end Go.Proofs.Ytlmgihnnphmmhaa
