/- radix's laws: RadixOrders, walked. -/
import Derived.Test.YtbmlggieifaniaaQj
namespace Go.Proofs.Ytbmlggieifaniaa
open Go.RowKit Go.Maps
set_option linter.unusedVariables false
set_option linter.unusedSimpArgs false

set_option maxRecDepth 100000 in
set_option maxHeartbeats 16000000 in
theorem orders_walk (W : World) {A : Option Addr} {n c : Nat} {b : Nat → PArg} (h : Prs W A n b) (hn : n ≤ 9223372036854775807) (t : Int) :
    Calls Try.prog 4 #[.slice A n c, .int .i64 t] W fun e w' => e = .returned (.bool true) ∧ Below W.heap.size W w' := by
  have HP := Lib.hid h
  clear h
  go_enter Try.func4, Try.ntmps4
  go_upto_region 3 with (go_at_call 8; refine (known_any _).mono ?_; rintro e w0 ⟨rfl, hb0⟩)
  have HB0 := Lib.hid hb0
  clear hb0
  by_cases hn60 : (80 : Int) < n
  · go_wp2
    go_ret
    exact ⟨rfl, HB0.out⟩
  have hd60 : decide ((80 : Int) < (n : Int)) = false := decide_eq_false hn60
  by_cases hn0 : n = 0
  · subst hn0
    go_wp2
    go_ret
    exact ⟨rfl, HB0.out⟩
  have hb00 : ((n : Int) == 0) = false := by simp; omega
  have hn00 : (n : Int) ≠ 0 := by omega
  obtain ⟨q, hq, hqt⟩ := turn_of (t := t) (n := n) (by omega)
  generalize hR : t.tmod n = R at hqt
  have hnI : (n : Int) ≤ 80 := by omega
  clear hn60
  go_upto_if 34 with (fail)
  have HQT := Lib.hid hqt
  clear hqt hR
  go_cut [1] from 34 to 38 (fun v w => v = .int .i64 (q : Nat) ∧ w = w0)
  case first =>
    rcases HQT.out with ⟨h1, h2⟩ | ⟨h1, h2⟩
    · have H2 := Lib.hid h2
      clear h2 HQT
      go_wp2_with fail
      go_meet
      exact ⟨by rw [H2.out], rfl⟩
    · have hw : IntKind.i64.wrap (R + (n : Int)) = R + (n : Int) := IntWalk.i64_in _ (by omega)
      have H2 := Lib.hid h2
      clear h2 HQT
      go_wp2_with fail
      go_meet
      exact ⟨by rw [← H2.out], rfl⟩
  case rest =>
  obtain ⟨rfl, rfl⟩ := hcut
  clear HQT hb00 hn00 hd60
  have hmm := @run_makeMap Try.prog
  go_upto_region 10 with (fail)
  clear hmm
  obtain ⟨Mb, hMb⟩ : ∃ g, wc.heap.size = g := ⟨_, rfl⟩
  have HL1 : Hid (Lp1 W (wc.alloc (.map #[] 0)) Mb [] none 0 []) := Lib.hid (by rw [← hMb]; exact Lp1.start HB0.out)
  rw [hMb]
  clear hMb
  refine wp_forget (fun V => Lp1 W V Mb [] none 0 []) HL1.out ?_
  clear HL1 HB0
  rintro V hl1
  have HL1 := Lib.hid hl1
  clear hl1
  go_wp2
  go_loopw [6, 7] (fun o i wr => ∃ (j : Nat) (l : List PArg) (A1 : Option Addr) (c1 : Nat) (ps : Ps), j ≤ n ∧ i = .int .i64 (j : Nat) ∧ o = .slice A1 l.length c1 ∧ Lp1 W wr Mb l A1 c1 ps ∧ l.length ≤ j ∧ ps.length ≤ j) (fun _ i _ => n - (intOf i).toNat)
  case atStart => exact ⟨0, [], none, 0, [], by omega, rfl, rfl, HL1.out, Nat.le_refl _, Nat.le_refl _⟩
  case round =>
    obtain ⟨j, l, A1, c1, ps, hj, rfl, rfl, hl1, hll, hpl⟩ := hrel
    have HR := Lib.hid hl1
    clear hl1 HL1
    by_cases hjn : j < n
    · obtain ⟨ga, oa, hAA, hgaW, hcsW⟩ := HP.out (by omega)
      have hinW := (hcsW j hjn).2.2
      obtain ⟨ga', oa', hAA', hga, hcs⟩ := (HP.out.up HR.out.bel) (by omega)
      rw [hAA] at hAA'
      cases hAA'
      subst hAA
      obtain ⟨k0, k1, kin⟩ := hcs j hjn
      obtain ⟨bj, hbj⟩ : ∃ x, b j = x := ⟨_, rfl⟩
      rw [hbj] at k0 k1 kin hinW
      have HGA := Lib.hid (show ga < W.heap.size ∧ W.cell? ⟨ga, oa + j * 2, none⟩ = some (.int .i64 bj.key) ∧ W.cell? ⟨ga, oa + j * 2 + 1, none⟩ = some bj.v from ⟨hgaW, by have := (hcsW j hjn).1; rwa [hbj] at this, by have := (hcsW j hjn).2.1; rwa [hbj] at this⟩)
      obtain ⟨ky, Ab, nb, cb, Lb⟩ := bj
      unfold PArg.v at k1
      have HINW := Lib.hid hinW
      have hnb := kin.1.1
      simp only at k0 k1 hnb
      have hjI : (j : Int) < (n : Int) := by omega
      have hlk := HR.out.mp.look (key := ky) hinW.2.2
      clear hcs kin hbj hinW hcsW hgaW
      go_upto_region 14 with (fail)
      clear hlk
      by_cases hkk : keyOk ky
      case neg =>
        have hkd : decide (keyOk ky) = false := decide_eq_false hkk
        clear hkk
        go_wp2_with (go_at_call 9; refine (right9_any _ _).mono ?_; rintro e w9 ⟨rfl, rfl⟩; rw [hkd])
        go_ret
        exact ⟨rfl, HR.out.bel⟩
      have hkd : decide (keyOk ky) = true := decide_eq_true hkk
      by_cases hlb : (256 : Int) < (nb : Int)
      · clear hkk
        go_wp2_with (go_at_call 9; refine (right9_any _ _).mono ?_; rintro e w9 ⟨rfl, rfl⟩; rw [hkd])
        go_ret
        exact ⟨rfl, HR.out.bel⟩
      have hld : decide ((256 : Int) < (nb : Int)) = false := decide_eq_false hlb
      have hlb2 : Lb.length ≤ 256 := by omega
      clear hlb
      obtain ⟨kn, hkn⟩ : ∃ k : Nat, ky = (k : Int) := ⟨ky.toNat, by have := hkk.1; omega⟩
      subst hkn
      have hkn : kn < 16777216 := by have := hkk.2; omega
      go_upto_region 16 with (go_at_call 9; refine (right9_any _ _).mono ?_; rintro e w9 ⟨rfl, rfl⟩; rw [hkd])
      rw [mI_nat]
      cases hmk : mpU (nthP l) l.length kn with
      | some L0 =>
        clear hmk hkk hkd hld k0 k1
        go_wp2
        go_roundw
        case rel => exact ⟨j + 1, l, A1, c1, ps, by omega, by go_num, rfl, HR.out, by omega, by omega⟩
        case measure => simp [intOf]; omega
      | none =>
        have HMK := Lib.hid hmk
        clear hmk hkk hkd hld
        go_upto_region 17 with (fail)
        have lga := lt_of_cell k0
        have cv1 : ∀ g : Up w9, (convert 23 9 (.slice Ab nb cb)).run Try.prog g.world = .ok (.string (strB Lb)) g.world := fun g => ((HINW.out.1.up HR.out.bel).up g.h).str cb
        refine wp_region_up_tail 12 (by kernel_rfl) (by kernel_rfl) (by kernel_rfl) ?_
        simp only [List.take_succ_cons, List.take_zero, List.drop_succ_cons, List.drop_zero]
        repeat (go_big_quiet_step (fail))
        refine wpQuiet_nil ?_
        rintro _ ⟨g, rfl⟩
        obtain ⟨w6, hu6, hm6⟩ := (HR.out.up g.h).put hkn Lb
        have HM6 := Lib.hid hm6
        clear hm6 cv1 k0 k1
        go_upto_region 18 with (fail)
        clear hu6
        have hb6 := HM6.out.bel
        obtain ⟨q0, q1, q2⟩ := HGA.out
        have k0 := (hb6.cell (p := ⟨ga, oa + j * 2, none⟩) q0).trans q1
        have k1 := (hb6.cell (p := ⟨ga, oa + j * 2 + 1, none⟩) q0).trans q2
        unfold PArg.v at k1
        simp only at k0 k1
        obtain ⟨A2, c2, w7, hr7, hl7⟩ := HR.out.next (p := ⟨(kn : Int), Ab, nb, cb, Lb⟩) rfl hkn HINW.out hlb2 HMK.out HM6.out (by omega) 22
        have H7 := Lib.hid hl7
        have HPL : Hid ((insP kn Lb ps).length ≤ j + 1) := Lib.hid (by rw [HR.out.lst.set_len]; split <;> omega)
        have HLL : Hid ((l ++ [(⟨(kn : Int), Ab, nb, cb, Lb⟩ : PArg)]).length ≤ j + 1) := Lib.hid (by rw [List.length_append]; show l.length + 1 ≤ j + 1; omega)
        simp only at hr7
        clear hl7 q0 q1 q2 hb6 HM6 HR
        go_wp2_with (at_builtin; go_must (refine wpList_append_run rfl (.tmp 86) (.tmp 91) 22 rfl _ _ rfl rfl hr7 ?_))
        go_roundw
        case rel => exact ⟨j + 1, l ++ [⟨(kn : Int), Ab, nb, cb, Lb⟩], A2, c2, insP kn Lb ps, by omega, by go_num, by simp, H7.out, HLL.out, HPL.out⟩
        case measure => simp [intOf]; omega
    · obtain rfl : j = n := by omega
      have hjn2 : ¬ (j : Int) < (j : Int) := by omega
      clear hjn HP
      obtain ⟨W2, hW2⟩ : ∃ x, x = wr := ⟨_, rfl⟩
      rw [← hW2] at HR
      rw [← hW2]
      clear hW2
      have HPW := Lib.hid HR.out.prs
      obtain ⟨N, hN⟩ : ∃ N, l.length = N := ⟨_, rfl⟩
      obtain ⟨b2, hb2⟩ : ∃ f, nthP l = f := ⟨_, rfl⟩
      have HAT : Hid (∀ i, i < N → keyOk (b2 i).key ∧ (b2 i).L.length ≤ 256 ∧ (b2 i).In W) := Lib.hid (fun i hi => by rw [← hb2]; exact HR.out.at_ (by omega))
      have HAP : Hid (Apart b2 N) := Lib.hid (by rw [← hb2, ← hN]; exact HR.out.apart)
      have HGM : Hid (GMap W2 Mb (mpU b2 N) ps.length) := Lib.hid (by rw [← hb2, ← hN]; exact HR.out.mp)
      have HLS : Hid (Lst (mpU b2 N) ps) := Lib.hid (by rw [← hb2, ← hN]; exact HR.out.lst)
      have HBL := Lib.hid HR.out.bel
      have hgeM := HR.out.geM
      rw [hb2, hN] at HPW
      rw [hN] at hll
      rw [hN]
      clear hb2 hN HR
      go_upto_region 20 with (first
        | (go_at_call 10; refine (newShelf_any _).mono ?_; rintro e w1 hsh; have he1 := hsh.1; subst he1; have HSH := Lib.hid hsh; have HTN : Hid (Calls Try.prog 11 #[.iface 26 (.pointer (some ⟨W2.heap.size, 0, none⟩))] w1 (TrNew (shM W2.heap.size) w1 (· = W2.heap.size) sh0)) := Lib.hid (treeNew_any (M := shM W2.heap.size) (w := w1) (O := (· = W2.heap.size)) (s := sh0) (show (shM W2.heap.size).At w1 (· = W2.heap.size) sh0 from hsh.2.2.2)); clear hsh)
        | (go_at_call 11; refine HTN.out.mono ?_; rintro e w2 htn; have he2 := htn.1; subst he2; have HL := Lib.hid (shl_new (Below.refl W2.heap.size W2) HSH.out htn); clear htn HTN HSH))
      obtain ⟨S, hS⟩ : ∃ S, W2.heap.size = S := ⟨_, rfl⟩
      obtain ⟨T, hT⟩ : ∃ T, w1.heap.size = T := ⟨_, rfl⟩
      rw [hS, hT] at HL
      rw [hT]
      clear hT hS
      go_upto_region 24 with (fail)
      have hstart : RtAt W2 ((w2.alloc (.cells #[.int .i64 0, .int .i64 0] 32)).alloc (.cells #[.int .i64 0, .int .i64 0] 32)) S T w2.heap.size (· = S) (sh0, 0) (0, 0) ∧ RtAt W2 ((w2.alloc (.cells #[.int .i64 0, .int .i64 0] 32)).alloc (.cells #[.int .i64 0, .int .i64 0] 32)) S T (w2.heap.size + 1) (· = S) (sh0, 0) (0, 0) := by
        have h1 : RtAt W2 (w2.alloc (.cells #[.int .i64 0, .int .i64 0] 32)) S T w2.heap.size (· = S) (sh0, 0) (0, 0) := ⟨(HL.out.box (0, 0) 32).1, (HL.out.box (0, 0) 32).2.1, (HL.out.box (0, 0) 32).2.2, HL.out.bel.size⟩
        have h2 := h1.boxA (0, 0) 32
        have hs1 : (w2.alloc (.cells #[.int .i64 0, .int .i64 0] 32)).heap.size = w2.heap.size + 1 := by simp
        rw [hs1] at h2
        exact h2
      obtain ⟨ga, hga⟩ : ∃ g, w2.heap.size = g := ⟨_, rfl⟩
      obtain ⟨gb, hgb⟩ : ∃ g, w2.heap.size + 1 = g := ⟨_, rfl⟩
      have hab : ga ≠ gb := by omega
      rw [hgb, hga] at hstart
      refine wp_forget (fun V => RtAt W2 V S T ga (· = S) (sh0, 0) (0, 0) ∧ RtAt W2 V S T gb (· = S) (sh0, 0) (0, 0)) hstart ?_
      rw [hgb, hga]
      clear hga hgb HL hstart
      rintro V ⟨hra, hrb⟩
      have HRA0 := Lib.hid hra
      have HRB0 := Lib.hid hrb
      clear hra hrb
      go_wp2
      go_loopw [13] (fun i wr => ∃ (j : Nat) (O : Nat → Prop) (st : ShS × Int) (ra rb : Int × Int), j ≤ N ∧ i = .int .i64 (j : Nat) ∧ RtAt W2 wr S T ga O st ra ∧ RtAt W2 wr S T gb O st rb ∧ TellsR (shRd st.1.L) ra (mpU b2 j) ∧ TellsR (shRd st.1.L) rb (mpU (turned b2 N q) j) ∧ shK.Rdy st.1 (14 * (N - j)) ∧ st.1.full < 0) (fun i _ => N - (intOf i).toNat)
      case atStart => exact ⟨0, _, _, _, _, by omega, rfl, HRA0.out, HRB0.out, .inl ⟨rfl, fun _ => rfl⟩, .inl ⟨rfl, fun _ => rfl⟩, sh0_rdy (by omega), by show (-1 : Int) < 0; omega⟩
      case round =>
        obtain ⟨i, O, st, ⟨ra, ra'⟩, ⟨rb, rb'⟩, hi, rfl, hra, hrb, hta, htb, hrd, hfl⟩ := hrel
        have HRA := Lib.hid hra
        have HRB := Lib.hid hrb
        have HTA := Lib.hid hta
        have HTB := Lib.hid htb
        have HRD := Lib.hid hrd
        have HFL := Lib.hid hfl
        clear hra hrb hta htb hrd hfl HRA0 HRB0
        by_cases hiN : i < N
        · obtain ⟨m, hm⟩ : ∃ m, (i + q) % N = m := ⟨_, rfl⟩
          have hmN : m < N := by rw [← hm]; exact Nat.mod_lt _ (by omega)
          obtain ⟨gw, ow, hAe, hgw, hcs⟩ := HPW.out (by omega)
          cases hAe
          obtain ⟨k0, k1, kin⟩ := hcs i hiN
          obtain ⟨m0, m1, min⟩ := hcs m hmN
          obtain ⟨ki1, ki2, ki3⟩ := HAT.out i hiN
          obtain ⟨mi1, mi2, mi3⟩ := HAT.out m hmN
          obtain ⟨bi, hbi⟩ : ∃ x, b2 i = x := ⟨_, rfl⟩
          obtain ⟨bm, hbm⟩ : ∃ x, b2 m = x := ⟨_, rfl⟩
          have hbt : turned b2 N q i = bm := by rw [← hbm, ← hm]; rfl
          rw [hbi] at k0 k1 kin ki1 ki2 ki3
          rw [hbm] at m0 m1 min mi1 mi2 mi3
          obtain ⟨kyi, Ai, ni, ci, Li⟩ := bi
          obtain ⟨kym, Am, nm, cm, Lm⟩ := bm
          unfold PArg.v at k1 m1
          simp only at k0 k1 ki1 ki2 m0 m1 mi1 mi2
          have HKI := Lib.hid kin
          have HMI := Lib.hid min
          have HLOWI := Lib.hid (PArg.low (c := ci) kin.1)
          have HLOWM := Lib.hid (PArg.low (c := cm) min.1)
          obtain ⟨kn, hkn⟩ : ∃ k : Nat, kyi = (k : Int) := ⟨kyi.toNat, by have := ki1.1; omega⟩
          subst hkn
          have hkn : kn < 16777216 := by have := ki1.2; omega
          obtain ⟨km, hkm⟩ : ∃ k : Nat, kym = (k : Int) := ⟨kym.toNat, by have := mi1.1; omega⟩
          subst hkm
          have hkm : km < 16777216 := by have := mi1.2; omega
          have HKW := Lib.hid (show gw < W2.heap.size ∧ W2.cell? ⟨gw, ow + i * 2, none⟩ = some (.int .i64 (kn : Nat)) ∧ W2.cell? ⟨gw, ow + i * 2 + 1, none⟩ = some (.slice Ai ni ci) from ⟨hgw, k0, k1⟩)
          have HMW := Lib.hid (show gw < W2.heap.size ∧ W2.cell? ⟨gw, ow + m * 2, none⟩ = some (.int .i64 (km : Nat)) ∧ W2.cell? ⟨gw, ow + m * 2 + 1, none⟩ = some (.slice Am nm cm) from ⟨hgw, m0, m1⟩)
          have HSI := Lib.hid (mpU_step hbi)
          have HSM := Lib.hid (mpU_step hbt)
          have hiI : (i : Int) < (N : Int) := by omega
          have hmI : (m : Int) < (N : Int) := by omega
          have hsum : IntKind.i64.wrap ((i : Int) + (q : Int)) = ((i + q : Nat) : Int) := by
            rw [show ((i : Int) + (q : Int)) = ((i + q : Nat) : Int) by omega]
            exact IntWalk.i64_in _ (by omega)
          have hrem : ((i : Int) + (q : Int)).tmod (N : Int) = (m : Int) := by
            rw [← hm, show ((i : Int) + (q : Int)) = ((i + q : Nat) : Int) by omega]
            rfl
          have hj1 : 14 * (N - i) = 14 * (N - (i + 1)) + 7 + 7 := by omega
          have HSET : Hid (∀ w', Below wr.heap.size wr w' → Calls Try.prog 12 #[.pointer (some ⟨T, 0, none⟩), .agg #[.int .i64 ra, .int .i64 ra'], .int .i64 (kn : Nat), .slice Ai ni ci] w' fun e w3 => ∃ O' st' r', SetOk W2 w' w3 S T O O' st st' (14 * (N - (i + 1)) + 7) 6 (fun rd' r' => Tells rd' 0 0 r' (upd (mpU b2 i) kn (some Li)) ∧ (mpU b2 i kn = some Li → r' = (ra, ra'))) r' e) := Lib.hid fun w' hb =>
            shl_set (HRA.out.l.up hb) (by rw [← hj1]; exact HRD.out) HFL.out (r := (ra, ra')) HTA.out hkn (SlB.up ⟨_, _, _, rfl, HKI.out.2.1, HKI.out.1.up HRA.out.l.bel⟩ hb) ki2 (HRA.out.l.out HLOWI.out)
          have b0 := HRA.out.box.1
          have b1 := HRA.out.box.2.1
          simp only at b0 b1
          have lb := HRA.out.box.lt
          clear hcs kin min ki1 ki3 mi1 mi3 hbi hbm hbt hj1 hm m0 m1 k0 k1 hgw
          obtain ⟨q0, q1, q2⟩ := HKW.out
          have k0 := (HRA.out.l.bel.cell (p := ⟨gw, ow + i * 2, none⟩) q0).trans q1
          have k1 := (HRA.out.l.bel.cell (p := ⟨gw, ow + i * 2 + 1, none⟩) q0).trans q2
          have lgw := lt_of_cell k0
          clear q0 q1 q2
          go_upto_region 27 with (fail)
          go_cut [14, 15] from 106 to 121 (fun s8 s9 V => ∃ (g8 : Nat) (O3 : Nat → Prop) (st3 : ShS × Int) (r3 : Int × Int), s8 = .pointer (some ⟨g8, 0, none⟩) ∧ s9 = .int .i64 0 ∧ RtAt W2 V S T ga O3 st3 (ra, ra') ∧ RtAt W2 V S T gb O3 st3 (rb, rb') ∧ RtAt W2 V S T g8 O3 st3 r3 ∧ ga ≠ g8 ∧ gb ≠ g8 ∧ shK.Rdy st3.1 (14 * (N - (i + 1)) + 7) ∧ st3.1.full < 0 ∧ Tells (shRd st3.1.L) 0 0 r3 (upd (mpU b2 i) kn (some Li)) ∧ TellsR (shRd st3.1.L) (rb, rb') (mpU (turned b2 N q) i))
          case first =>
            go_region_law (first
              | (go_simp; go_at_call 12; (with_reducible refine (HSET.out _ (by first | exact (Below.refl _ _).drew | exact ((Below.refl _ _).alloc (Nat.le_refl _) _).drew)).mono ?_); rintro e w3 ⟨O3, st3, ⟨r3a, r3b⟩, hs⟩; have he3 := hs.e; subst he3; have HS3 := Lib.hid hs; (first | (have kb := SetOk.box0 HRA.out.l hs; have y0 := kb.1.1; have y1 := kb.1.2.1; have z0 := kb.1.2.2 0; have z1 := kb.1.2.2 1; have HKB := Lib.hid kb; clear kb) | skip); clear hs))
            all_goals
              go_wp2_with fail
              go_meet
              first
                | exact ⟨_, O3, st3, (r3a, r3b), rfl, rfl, setA HRA.out HRB.out HTB.out (Below.refl _ _).drew HS3.out 32⟩
                | exact ⟨_, O3, st3, (r3a, r3b), rfl, rfl, setB HRA.out HRB.out HTB.out ((Below.refl _ _).alloc (Nat.le_refl _) _).drew HS3.out HKB.out.1 HKB.out.2 rfl⟩
          case rest =>
          obtain ⟨g8, O3, st3, ⟨r3a, r3b⟩, rfl, rfl, hra, hrb, hr3, hn1, hn2, hrd3, hf3, ht3, htb3⟩ := hcut
          have HRA3 := Lib.hid hra
          have HRB3 := Lib.hid hrb
          have HR3 := Lib.hid hr3
          have HRD3 := Lib.hid hrd3
          have HF3 := Lib.hid hf3
          have HT3 := Lib.hid ht3
          have HTB3 := Lib.hid htb3
          clear hrb hr3 hrd3 hf3 ht3 htb3 HSET b0 b1 lb lgw k0 k1 HRA HRB HTA HTB HRD HFL
          obtain ⟨q0, q1, q2⟩ := HMW.out
          have m0 := (hra.l.bel.cell (p := ⟨gw, ow + m * 2, none⟩) q0).trans q1
          have m1 := (hra.l.bel.cell (p := ⟨gw, ow + m * 2 + 1, none⟩) q0).trans q2
          clear q0 q1 q2 hra
          go_upto_region 29 with (fail)
          obtain ⟨g16, hg16⟩ : ∃ g, wc.heap.size = g := ⟨_, rfl⟩
          refine wp_forget (fun V => RtAt W2 V S T ga O3 st3 (ra, ra') ∧ RtAt W2 V S T gb O3 st3 (rb, rb') ∧ RtAt W2 V S T g8 O3 st3 (r3a, r3b) ∧ V.cell? ⟨g16, 0, none⟩ = some (.int .i64 (km : Nat)) ∧ V.cell? ⟨g16, 1, none⟩ = some (.slice Am nm cm)) (by
            have hb : Below wc.heap.size wc (wc.alloc (.cells #[.int .i64 (km : Nat), .slice Am nm cm] 34)) := (Below.refl _ _).alloc (Nat.le_refl _) _
            exact ⟨HRA3.out.up hb, HRB3.out.up hb, HR3.out.up hb, by rw [← hg16]; simp [go_sem], by rw [← hg16]; simp [go_sem]⟩) ?_
          rw [hg16]
          clear m0 m1 hg16 HRA3 HRB3 HR3
          rintro V4 ⟨hra4, hrb4, hr4, c0, c1⟩
          have HRA4 := Lib.hid hra4
          have HRB4 := Lib.hid hrb4
          have HR4 := Lib.hid hr4
          have b0 := hrb4.box.1
          have b1 := hrb4.box.2.1
          simp only at b0 b1
          have HSET2 : Hid (Calls Try.prog 12 #[.pointer (some ⟨T, 0, none⟩), .agg #[.int .i64 rb, .int .i64 rb'], .int .i64 (km : Nat), .slice Am nm cm] V4 fun e w3 => ∃ O' st' r', SetOk W2 V4 w3 S T O3 O' st3 st' (14 * (N - (i + 1))) 6 (fun rd' r' => Tells rd' 0 0 r' (upd (mpU (turned b2 N q) i) km (some Lm)) ∧ (mpU (turned b2 N q) i km = some Lm → r' = (rb, rb'))) r' e) := Lib.hid
            (shl_set hrb4.l HRD3.out HF3.out (r := (rb, rb')) HTB3.out hkm ⟨_, _, _, rfl, HMI.out.2.1, HMI.out.1.up hrb4.l.bel⟩ mi2 (hrb4.l.out HLOWM.out))
          clear hra4 hrb4 hr4
          go_upto_region 30 with (go_at_call 12; refine HSET2.out.mono ?_; rintro e w5 ⟨O5, st5, ⟨r5a, r5b⟩, hs⟩; have he5 := hs.e; subst he5; have HS5 := Lib.hid hs; clear hs HSET2)
          have h5 := setA HRA4.out HRB4.out HTB3.out (Below.refl _ _) HS5.out 32
          have h6 := ((SetOk.rt HR4.out (Below.refl _ _) HS5.out).boxA (r5a, r5b) 32).1
          have hsub5 : SubR (shRd st3.1.L) (shRd st5.1.L) := by obtain ⟨_, _, ha⟩ := HS5.out.aft; exact ha.sub
          have HT5 := Lib.hid (HT3.out.mono hsub5)
          clear hsub5
          obtain ⟨e1, e2, e3, e4, e5, e6, e7, e8, e9⟩ := h5
          have HRD5 := Lib.hid e6
          have HF5 := Lib.hid e7
          have HTB5 := Lib.hid e8
          refine wp_forget (fun V => RtAt W2 V S T ga O5 st5 (ra, ra') ∧ RtAt W2 V S T gb O5 st5 (rb, rb') ∧ RtAt W2 V S T g8 O5 st5 (r3a, r3b) ∧ RtAt W2 V S T w5.heap.size O5 st5 (r5a, r5b)) ⟨e1, e2, h6, e3⟩ ?_
          obtain ⟨g17, hg17⟩ : ∃ g, w5.heap.size = g := ⟨_, rfl⟩
          rw [hg17]
          rw [hg17] at e4 e5
          have HNE := Lib.hid (show ga ≠ g17 ∧ gb ≠ g17 from ⟨e4, e5⟩)
          clear hg17 e1 e2 e3 e4 e5 e6 e7 e8 e9 h6 HS5 HRA4 HRB4 HR4 b0 b1 c0 c1 HRD3 HF3 HT3 HTB3
          rintro V5 ⟨hra5, hrb5, hr5, hx5⟩
          have HRA5 := Lib.hid hra5
          have HRB5 := Lib.hid hrb5
          have HX5 := Lib.hid hx5
          have p0 := hr5.box.1
          have p1 := hr5.box.2.1
          have lp := hr5.box.lt
          have u0 := hra5.box.1
          have u1 := hra5.box.2.1
          have z0 := hra5.box.2.2 0
          have z1 := hra5.box.2.2 1
          have lu := hra5.box.lt
          simp only at p0 p1 u0 u1
          clear hra5 hrb5 hr5 hx5
          go_upto_region 33 with (fail)
          refine wp_forget (fun V => RtAt W2 V S T ga O5 st5 (r3a, r3b) ∧ RtAt W2 V S T gb O5 st5 (rb, rb') ∧ RtAt W2 V S T g17 O5 st5 (r5a, r5b)) ⟨HRA5.out.root (r3a, r3b), HRA5.out.rootO HRB5.out hab (r3a, r3b), HRA5.out.rootO HX5.out HNE.out.1 (r3a, r3b)⟩ ?_
          clear p0 p1 lp u0 u1 z0 z1 lu HRA5 HRB5 HX5
          rintro V6 ⟨hra6, hrb6, hx6⟩
          have HRA6 := Lib.hid hra6
          have HRB6 := Lib.hid hrb6
          have p0 := hx6.box.1
          have p1 := hx6.box.2.1
          have lp := hx6.box.lt
          have u0 := hrb6.box.1
          have u1 := hrb6.box.2.1
          have z0 := hrb6.box.2.2 0
          have z1 := hrb6.box.2.2 1
          have lu := hrb6.box.lt
          simp only at p0 p1 u0 u1
          clear hra6 hrb6 hx6
          go_wp2
          go_roundw
          case rel => exact ⟨i + 1, O5, st5, (r3a, r3b), (r5a, r5b), by omega, by go_num, HRB6.out.rootO HRA6.out hab.symm (r5a, r5b), HRB6.out.root (r5a, r5b), by rw [HSI.out]; exact .inr HT5.out, by rw [HSM.out]; exact .inr HTB5.out, HRD5.out, HF5.out⟩
          case measure => simp [intOf]; omega
        · obtain rfl : i = N := by omega
          have hiN2 : ¬ (i : Int) < (i : Int) := by omega
          have hMlt := MapIs.lt HGM.out
          have HOM : Hid (Out O T Mb) := Lib.hid ⟨fun e => by have := HRA.out.l.hO Mb e; omega, fun e => by have := HRA.out.l.hT; omega⟩
          have HRA2 := Lib.hid (HRA.out.base HBL.out)
          have HRB2 := Lib.hid (HRB.out.base HBL.out)
          have hGV : GMap wr Mb (mpU b2 i) ps.length := HGM.out.off (S := fun _ => False) (Off.of_below HRA.out.l.bel) id
          have hTB2 : TellsR (shRd st.1.L) (rb, rb') (mpU b2 i) := by have h9 := HTB.out; rw [turned_map HAP.out] at h9; exact h9
          have HTB2 := Lib.hid hTB2
          have HRD0 : Hid (shK.Rdy st.1 0) := Lib.hid (shK_good.mono _ _ _ HRD.out (by omega))
          have hpl2 : ps.length ≤ 149796 := by omega
          have hMb : Mb ≠ gb := by have := HRB.out.ge; omega
          have HS1 := Lib.hid (same_any HRA2.out.l HRD0.out (r := (ra, ra')) HTA.out HLS.out hpl2 hGV HOM.out hgeM)
          simp only at HS1
          have b0 := HRA.out.box.1
          have b1 := HRA.out.box.2.1
          simp only at b0 b1
          clear hiN hGV hTB2 HRA HRB HTA HTB HRD hMlt
          go_wp2_with (first
            | (go_at_call 13; (with_reducible refine HS1.out.mono ?_); rintro e w9 ⟨rfl, s9, hsm⟩; have HR9 := Lib.hid (SmOk.rt HRB2.out hMb hsm); have d0 := HR9.out.box.1; have d1 := HR9.out.box.2.1; simp only at d0 d1; have HS2 := Lib.hid (same_any HR9.out.l (hsm.rdy 0 HRD0.out) (r := (rb, rb')) (TellsK.mono HTB2.out hsm.aft.sub) HLS.out hpl2 hsm.mp HOM.out hgeM); simp only at HS2; clear hsm HS1)
            | (go_at_call 13; (with_reducible refine HS2.out.mono ?_); rintro e w11 ⟨rfl, s11, hsm⟩; have HSM11 := Lib.hid hsm.l.bel; clear hsm HS2))
          go_ret
          exact ⟨rfl, HSM11.out⟩
end Go.Proofs.Ytbmlggieifaniaa
