/- radix's laws: RadixFull, walked. -/
import Derived.Test.YtbmlggieifaniaaQh
namespace Go.Proofs.Ytbmlggieifaniaa
open Go.RowKit Go.Maps
set_option linter.unusedVariables false
set_option linter.unusedSimpArgs false

theorem mpU_succ {b : Nat → PArg} {j kn : Nat} {Ab : Option Addr} {nb cb : Nat} {Lb : Bytes} (h : b j = ⟨(kn : Int), Ab, nb, cb, Lb⟩) : mpU b (j + 1) = upd (mpU b j) kn (some Lb) := by
  show upd (mpU b j) (b j).key.toNat (some (b j).L) = _
  rw [h]
  rfl
set_option maxRecDepth 100000 in
set_option maxHeartbeats 16000000 in
theorem full_walk (W : World) {A : Option Addr} {n c : Nat} {b : Nat → PArg} (h : Prs W A n b) (hn : n ≤ 9223372036854775807) (key : Int) {Av : Option Addr} {nv cv : Nat} {Lv : Bytes} (hv : SBy W Av nv Lv) (hcv : nv ≤ cv) (room : Int) (hroom : room < 9223372036854775808) :
    Calls Try.prog 3 #[.slice A n c, .int .i64 key, .slice Av nv cv, .int .i64 room] W fun e w' => e = .returned (.bool true) ∧ Below W.heap.size W w' := by
  have HP := Lib.hid h
  have HV := Lib.hid hv
  have hnv := hv.1
  clear h hv
  go_enter Try.func3, Try.ntmps3
  go_upto_region 3 with (go_at_call 8; refine (known_any _).mono ?_; rintro e w0 ⟨rfl, hb0⟩)
  have HB0 := Lib.hid hb0
  clear hb0
  by_cases hn60 : (100 : Int) < n
  · go_wp2
    go_ret
    exact ⟨rfl, HB0.out⟩
  have hd60 : decide ((100 : Int) < (n : Int)) = false := decide_eq_false hn60
  by_cases hkk : keyOk key
  case neg =>
    have hkd : decide (keyOk key) = false := decide_eq_false hkk
    clear hkk
    go_wp2_with (go_at_call 9; refine (right9_any _ _).mono ?_; rintro e w9 ⟨rfl, rfl⟩; rw [hkd])
    go_ret
    exact ⟨rfl, HB0.out⟩
  have hkd : decide (keyOk key) = true := decide_eq_true hkk
  by_cases hlv : (256 : Int) < (nv : Int)
  · clear hkk
    go_wp2_with (go_at_call 9; refine (right9_any _ _).mono ?_; rintro e w9 ⟨rfl, rfl⟩; rw [hkd])
    go_ret
    exact ⟨rfl, HB0.out⟩
  have hlvd : decide ((256 : Int) < (nv : Int)) = false := decide_eq_false hlv
  by_cases hr0 : room < 0
  · clear hkk
    go_wp2_with (go_at_call 9; refine (right9_any _ _).mono ?_; rintro e w9 ⟨rfl, rfl⟩; rw [hkd])
    go_ret
    exact ⟨rfl, HB0.out⟩
  have hr0d : decide (room < 0) = false := decide_eq_false hr0
  obtain ⟨kk, hkk2⟩ : ∃ k : Nat, key = (k : Int) := ⟨key.toNat, by have := hkk.1; omega⟩
  subst hkk2
  have hkkn : kk < 16777216 := by have := hkk.2; omega
  have hnI : (n : Int) ≤ 100 := by omega
  have hroom0 : 0 ≤ room := by omega
  have hlv2 : Lv.length ≤ 256 := by omega
  clear hn60 hlv hr0 hkk
  go_upto_region 5 with (go_at_call 9; refine (right9_any _ _).mono ?_; rintro e w9 ⟨rfl, rfl⟩; rw [hkd])
  obtain ⟨wc, hwc⟩ : ∃ wc, wc = w9 := ⟨_, rfl⟩
  rw [← hwc] at HB0
  rw [← hwc]
  clear hwc hkd hlvd hr0d hd60
  go_upto_region 7 with (first
    | (go_at_call 10; refine (newShelf_any _).mono ?_; rintro e w1 hsh; have he1 := hsh.1; subst he1; have HSH := Lib.hid hsh; have HTN : Hid (Calls Try.prog 11 #[.iface 26 (.pointer (some ⟨wc.heap.size, 0, none⟩))] w1 (TrNew (shM wc.heap.size) w1 (· = wc.heap.size) sh0)) := Lib.hid (treeNew_any (M := shM wc.heap.size) (w := w1) (O := (· = wc.heap.size)) (s := sh0) (show (shM wc.heap.size).At w1 (· = wc.heap.size) sh0 from hsh.2.2.2)); clear hsh)
    | (go_at_call 11; refine HTN.out.mono ?_; rintro e w2 htn; have he2 := htn.1; subst he2; have HL := Lib.hid (shl_new HB0.out HSH.out htn); clear htn HTN HSH))
  obtain ⟨S, hS⟩ : ∃ S, wc.heap.size = S := ⟨_, rfl⟩
  obtain ⟨T, hT⟩ : ∃ T, w1.heap.size = T := ⟨_, rfl⟩
  rw [hS, hT] at HL
  rw [hS, hT]
  clear hT HB0 hS
  have hmm := @run_makeMap Try.prog
  go_upto_region 11 with (fail)
  clear hmm
  have hstart : MtAt W ((w2.alloc (.map #[] 0)).alloc (.cells #[.int .i64 0, .int .i64 0] 32)) S T (w2.heap.size + 1) w2.heap.size (· = S) (sh0, 0) (0, 0) (mpU b 0) [] := by
    have hb1 : Below w2.heap.size w2 (w2.alloc (.map #[] 0)) := (Below.refl _ _).alloc (Nat.le_refl _) _
    have hl1 := HL.out.up hb1
    have hm1 : GMap (w2.alloc (.map #[] 0)) w2.heap.size (mpU b 0) 0 := by
      unfold GMap
      rw [show mpU b 0 = fun _ => none from rfl, gmF_none]
      exact MapIs.made w2
    have ho1 : Out (· = S) T w2.heap.size := HL.out.tr.outOf (Nat.le_refl _)
    have hs1 : (w2.alloc (.map #[] 0)).heap.size = w2.heap.size + 1 := by simp
    have hge := HL.out.bel.size
    generalize w2.alloc (.map #[] 0) = X1 at *
    have hb2 : Below X1.heap.size X1 (X1.alloc (.cells #[.int .i64 0, .int .i64 0] 32)) := (Below.refl _ _).alloc (Nat.le_refl _) _
    obtain ⟨q1, q2, q3⟩ := hl1.box (0, 0) 32
    rw [← hs1]
    exact ⟨⟨q1, q2, q3, by omega⟩, hm1.off (S := fun _ => False) (Off.of_below hb2) id, Lst.nil, ho1, hge, by omega⟩
  refine wp_forget (fun V => MtAt W V S T (w2.heap.size + 1) w2.heap.size (· = S) (sh0, 0) (0, 0) (mpU b 0) []) hstart ?_
  clear hstart
  obtain ⟨g12, hg12⟩ : ∃ g, w2.heap.size + 1 = g := ⟨_, rfl⟩
  obtain ⟨Mb, hMb⟩ : ∃ g, w2.heap.size = g := ⟨_, rfl⟩
  rw [hg12, hMb]
  clear hg12 hMb HL
  rintro V hrt
  have HRT := Lib.hid hrt
  clear hrt
  go_wp2
  go_loopw [13] (fun i wr => ∃ (j : Nat) (O : Nat → Prop) (st : ShS × Int) (r : Int × Int) (ps : Ps), j ≤ n ∧ i = .int .i64 (j : Nat) ∧ MtAt W wr S T g12 Mb O st r (mpU b j) ps ∧ TellsR (shRd st.1.L) r (mpU b j) ∧ shK.Rdy st.1 (7 * (n - j) + 7) ∧ st.1.full < 0 ∧ ps.length ≤ j) (fun i _ => n - (intOf i).toNat)
  case atStart => exact ⟨0, _, _, _, _, by omega, rfl, HRT.out, .inl ⟨rfl, fun _ => rfl⟩, sh0_rdy (by omega), by show (-1 : Int) < 0; omega, Nat.le_refl _⟩
  case round =>
    obtain ⟨j, O, st, ⟨ra, rb⟩, ps, hj, rfl, hrt, htl, hrd, hfl, hpl⟩ := hrel
    have HR := Lib.hid hrt
    have HTL := Lib.hid htl
    have HRD := Lib.hid hrd
    have HFL := Lib.hid hfl
    clear hrt htl hrd hfl HRT
    by_cases hjn : j < n
    · obtain ⟨ga, oa, hAA, hgaW, hcsW⟩ := HP.out (by omega)
      have hinW := (hcsW j hjn).2.2
      obtain ⟨ga', oa', hAA', hga, hcs⟩ := (HP.out.up HR.out.rt.l.bel) (by omega)
      rw [hAA] at hAA'
      cases hAA'
      subst hAA
      obtain ⟨k0, k1, kin⟩ := hcs j hjn
      obtain ⟨bj, hbj⟩ : ∃ x, b j = x := ⟨_, rfl⟩
      rw [hbj] at k0 k1 kin hinW
      have HBJ := Lib.hid hbj
      have HGA := Lib.hid (show ga < W.heap.size ∧ W.cell? ⟨ga, oa + j * 2, none⟩ = some (.int .i64 bj.key) ∧ W.cell? ⟨ga, oa + j * 2 + 1, none⟩ = some bj.v from ⟨hgaW, by have := (hcsW j hjn).1; rwa [hbj] at this, by have := (hcsW j hjn).2.1; rwa [hbj] at this⟩)
      obtain ⟨ky, Ab, nb, cb, Lb⟩ := bj
      unfold PArg.v at k1
      have HIN := Lib.hid kin
      have HINW := Lib.hid hinW
      have HLOW := Lib.hid (PArg.low (c := cb) hinW.1)
      have hnb := kin.1.1
      simp only at k0 k1 hnb
      have hjI : (j : Int) < (n : Int) := by omega
      clear hcs kin hbj hinW hcsW hgaW
      by_cases hkk : keyOk ky
      case neg =>
        have hkd : decide (keyOk ky) = false := decide_eq_false hkk
        clear hkk
        go_wp2_with (go_at_call 9; refine (right9_any _ _).mono ?_; rintro e w9 ⟨rfl, rfl⟩; rw [hkd])
        go_ret
        exact ⟨rfl, HR.out.rt.l.bel⟩
      have hkd : decide (keyOk ky) = true := decide_eq_true hkk
      by_cases hlb : (256 : Int) < (nb : Int)
      · clear hkk
        go_wp2_with (go_at_call 9; refine (right9_any _ _).mono ?_; rintro e w9 ⟨rfl, rfl⟩; rw [hkd])
        go_ret
        exact ⟨rfl, HR.out.rt.l.bel⟩
      have hld : decide ((256 : Int) < (nb : Int)) = false := decide_eq_false hlb
      have hlb2 : Lb.length ≤ 256 := by omega
      clear hlb
      go_upto_region 16 with (go_at_call 9; refine (right9_any _ _).mono ?_; rintro e w9 ⟨rfl, rfl⟩; rw [hkd])
      obtain ⟨kn, hkn⟩ : ∃ k : Nat, ky = (k : Int) := ⟨ky.toNat, by have := hkk.1; omega⟩
      subst hkn
      have hkn : kn < 16777216 := by have := hkk.2; omega
      have hj1 : 7 * (n - j) + 7 = 7 * (n - (j + 1)) + 7 + 7 := by omega
      have HSET : Hid (∀ w', Below w9.heap.size w9 w' → Calls Try.prog 12 #[.pointer (some ⟨T, 0, none⟩), .agg #[.int .i64 ra, .int .i64 rb], .int .i64 (kn : Nat), .slice Ab nb cb] w' fun e w3 => ∃ O' st' r', SetOk W w' w3 S T O O' st st' (7 * (n - (j + 1)) + 7) 6 (fun rd' r' => Tells rd' 0 0 r' (upd (mpU b j) kn (some Lb)) ∧ (mpU b j kn = some Lb → r' = (ra, rb))) r' e) := Lib.hid fun w' hb =>
        shl_set (HR.out.rt.l.up hb) (by rw [← hj1]; exact HRD.out) HFL.out (r := (ra, rb)) HTL.out hkn (SlB.up ⟨_, _, _, rfl, HIN.out.2.1, HIN.out.1⟩ hb) hlb2 (HR.out.rt.l.out HLOW.out)
      have b0 := HR.out.rt.box.1
      have b1 := HR.out.rt.box.2.1
      simp only at b0 b1
      have lb := HR.out.rt.box.lt
      have lM := MapIs.lt HR.out.mp
      clear hkk hj1 hkd hld hlb2
      go_cut [14, 15] from 67 to 82 (fun s8 s9 V => ∃ (g8 : Nat) (O3 : Nat → Prop) (st3 : ShS × Int) (r3 : Int × Int), s8 = .pointer (some ⟨g8, 0, none⟩) ∧ s9 = .int .i64 0 ∧ MtAt W V S T g12 Mb O3 st3 (ra, rb) (mpU b j) ps ∧ RtAt W V S T g8 O3 st3 r3 ∧ shK.Rdy st3.1 (7 * (n - (j + 1)) + 7) ∧ st3.1.full < 0 ∧ Tells (shRd st3.1.L) 0 0 r3 (upd (mpU b j) kn (some Lb)))
      case first =>
        go_region_law (first
          | (go_simp; go_at_call 12; (with_reducible refine (HSET.out _ (by first | exact (Below.refl _ _).drew | exact ((Below.refl _ _).alloc (Nat.le_refl _) _).drew)).mono ?_); rintro e w3 ⟨O3, st3, ⟨r3a, r3b⟩, hs⟩; have he3 := hs.e; subst he3; have HS3 := Lib.hid hs; (first | (have kb := SetOk.box0 HR.out.rt.l hs; have y0 := kb.1.1; have y1 := kb.1.2.1; have z0 := kb.1.2.2 0; have z1 := kb.1.2.2 1; have HKB := Lib.hid kb; clear kb) | skip); clear hs))
        all_goals
          go_wp2_with fail
          go_meet
          first
            | exact ⟨_, O3, st3, (r3a, r3b), rfl, rfl, ((SetOk.mt HR.out (Below.refl _ _).drew HS3.out).boxA (r3a, r3b) 32).1, ((SetOk.mt HR.out (Below.refl _ _).drew HS3.out).boxA (r3a, r3b) 32).2.1, HS3.out.rdy, HS3.out.full, HS3.out.g.1⟩
            | exact ⟨_, O3, st3, (r3a, r3b), rfl, rfl, ((SetOk.mt HR.out ((Below.refl _ _).alloc (Nat.le_refl _) _).drew HS3.out).boxB HKB.out.1 HKB.out.2 HR.out.rt.l.bel.size (by omega) (by omega) (r3a, r3b)).1, ((SetOk.mt HR.out ((Below.refl _ _).alloc (Nat.le_refl _) _).drew HS3.out).boxB HKB.out.1 HKB.out.2 HR.out.rt.l.bel.size (by omega) (by omega) (r3a, r3b)).2.1, HS3.out.rdy, HS3.out.full, HS3.out.g.1⟩
      case rest =>
      obtain ⟨g8, O3, st3, ⟨r3a, r3b⟩, rfl, rfl, hr6, hr8, hrd3, hf3, ht3⟩ := hcut
      have H6 := Lib.hid hr6
      have HR3 := Lib.hid hrd3
      have HF3 := Lib.hid hf3
      have HT3 := Lib.hid ht3
      have p0 := hr8.box.1
      have p1 := hr8.box.2.1
      have lp := hr8.box.lt
      have u0 := hr6.rt.box.1
      have u1 := hr6.rt.box.2.1
      have z0 := hr6.rt.box.2.2 0
      have z1 := hr6.rt.box.2.2 1
      have lu := hr6.rt.box.lt
      simp only at p0 p1 u0 u1
      clear hr6 hr8 hrd3 hf3 ht3 HSET b0 b1 lb lM k0 k1
      go_upto_region 20 with (fail)
      refine wp_forget (fun V => MtAt W V S T g12 Mb O3 st3 (r3a, r3b) (mpU b j) ps) (H6.out.root (r3a, r3b)) ?_
      clear p0 p1 lp u0 u1 z0 z1 lu H6
      rintro V5 hm5
      have HM5 := Lib.hid hm5
      obtain ⟨q0, q1, q2⟩ := HGA.out
      have k0 := (hm5.rt.l.bel.cell (p := ⟨ga, oa + j * 2, none⟩) q0).trans q1
      have k1 := (hm5.rt.l.bel.cell (p := ⟨ga, oa + j * 2 + 1, none⟩) q0).trans q2
      have lga := lt_of_cell k0
      unfold PArg.v at k1
      simp only at k0 k1
      have cv1 : ∀ g : Up V5, (convert 23 9 (.slice Ab nb cb)).run Try.prog g.world = .ok (.string (strB Lb)) g.world := fun g => ((HINW.out.1.up HM5.out.rt.l.bel).up g.h).str cb
      have HMU := Lib.hid (mpU_succ HBJ.out)
      clear hm5 q0 q1 q2
      refine wp_region_up_tail 12 (by kernel_rfl) (by kernel_rfl) (by kernel_rfl) ?_
      simp only [List.take_succ_cons, List.take_zero, List.drop_succ_cons, List.drop_zero]
      repeat (go_big_quiet_step (fail))
      refine wpQuiet_nil ?_
      rintro _ ⟨g, rfl⟩
      obtain ⟨w6, hu6, hm6, ho6⟩ := (HM5.out.up g.h).put hkn Lb
      have HM6 := Lib.hid hm6
      have HPL : Hid ((insP kn Lb ps).length ≤ j + 1) := Lib.hid (by rw [HM5.out.lst.set_len]; split <;> omega)
      clear hm6 ho6 cv1 k0 k1 HM5
      go_wp2
      go_roundw
      case rel => exact ⟨j + 1, O3, st3, (r3a, r3b), insP kn Lb ps, by omega, by go_num, by rw [HMU.out]; exact HM6.out, .inr (by rw [HMU.out]; exact HT3.out), HR3.out, HF3.out, HPL.out⟩
      case measure => simp [intOf]; omega
    · obtain rfl : j = n := by omega
      have hjn2 : ¬ (j : Int) < (j : Int) := by omega
      clear hjn HP
      obtain ⟨q0, q1⟩ := HR.out.rt.l.shelf
      have hlS := lt_of_cell q0
      go_upto_region 22 with (fail)
      refine wp_forget (fun V => MtAt W V S T g12 Mb O ({ st.1 with full := room }, st.2) (ra, rb) (mpU b j) ps) (HR.out.setFull room hroom) ?_
      clear q0 q1 hlS
      rintro V1 hm1
      have H1 := Lib.hid hm1
      have b0 := hm1.rt.box.1
      have b1 := hm1.rt.box.2.1
      have lb := hm1.rt.box.lt
      simp only at b0 b1
      have HSET : Hid (Calls Try.prog 12 #[.pointer (some ⟨T, 0, none⟩), .agg #[.int .i64 ra, .int .i64 rb], .int .i64 (kk : Nat), .slice Av nv cv] V1 fun e w' => ∃ O' st' r' er, RtPost shP (shM S) V1 T O ({ st.1 with full := room }, st.2) 6 (fun rd' r' => Tells rd' 0 0 r' (upd (mpU b j) kk (some Lv)) ∧ (mpU b j kk = some Lv → r' = (ra, rb))) (fun s' => shK.Rdy s' 0) e w' O' st' r' er) := Lib.hid
        (set_law (M := shM S) shP shK_good hm1.rt.l.tr hm1.rt.l.inn (rdy_full (shK_good.mono _ _ _ HRD.out (by omega)) hroom) (r := (ra, rb)) HTL.out hkkn ⟨_, _, _, rfl, hcv, HV.out.up hm1.rt.l.bel⟩ hlv2 (hm1.rt.l.out (PArg.low HV.out)))
      clear hm1 HFL
      go_upto_region 23 with (go_at_call 12; refine HSET.out.mono ?_; rintro e w3 ⟨O3, st3, ⟨r3a, r3b⟩, er, hs⟩; have hs2 := rt_mt H1.out (show 0 ≤ room from hroom0) hs; have he3 := hs2.1; subst he3; have HS3 := Lib.hid hs2.2; clear hs hs2 HSET)
      have hbx := HS3.out.1.boxA (r3a, r3b) 32
      refine wp_forget (fun V => MtAt W V S T g12 Mb O3 st3 (ra, rb) (mpU b j) ps ∧ RtAt W V S T w3.heap.size O3 st3 (r3a, r3b)) ⟨hbx.1, hbx.2.1⟩ ?_
      have hMg : Mb ≠ w3.heap.size := hbx.2.2.2
      have hgg : g12 ≠ w3.heap.size := hbx.2.2.1
      obtain ⟨g16, hg16⟩ : ∃ g, w3.heap.size = g := ⟨_, rfl⟩
      rw [hg16]
      rw [hg16] at hMg hgg
      clear hg16 hbx b0 b1 lb
      rintro V2 ⟨hm2, hx2⟩
      have H2 := Lib.hid hm2
      have HX2 := Lib.hid hx2
      obtain ⟨q0, q1⟩ := hm2.rt.l.shelf
      have hlS := lt_of_cell q0
      have HRD3 := Lib.hid HS3.out.2.1
      have HSUB := Lib.hid HS3.out.2.2.1
      have hres := HS3.out.2.2.2
      clear hm2 hx2 HS3 H1
      go_upto_region 24 with (fail)
      refine wp_forget (fun V => MtAt W V S T g12 Mb O3 ({ st3.1 with full := -1 }, st3.2) (ra, rb) (mpU b j) ps ∧ RtAt W V S T g16 O3 ({ st3.1 with full := -1 }, st3.2) (r3a, r3b)) ⟨H2.out.setFull (-1) (by omega), HX2.out.setFull (-1) (by omega)⟩ ?_
      clear q0 q1 hlS H2 HX2
      rintro V3 ⟨hm3, hx3⟩
      have H3 := Lib.hid hm3
      have HX3 := Lib.hid hx3
      have HRD4 : Hid (shK.Rdy { st3.1 with full := -1 } 0) := Lib.hid (rdy_full HRD3.out (by omega))
      have HTL3 : Hid (TellsR (shRd st3.1.L) (ra, rb) (mpU b j)) := Lib.hid (TellsK.mono HTL.out HSUB.out)
      have b0 := hm3.rt.box.1
      have b1 := hm3.rt.box.2.1
      have lb := hm3.rt.box.lt
      simp only at b0 b1
      have HSM := Lib.hid (hm3.same HRD4.out (r2 := (ra, rb)) HTL3.out (by omega))
      simp only at HSM
      clear hm3 hx3
      rcases hres with ⟨rfl, ht⟩ | ⟨rfl, hr6⟩
      · have HT4 := Lib.hid ht.1
        clear ht
        go_upto_region 28 with (go_at_call 13; refine HSM.out.mono ?_; rintro e w9 ⟨rfl, s9, hsm⟩; have HSM9 := Lib.hid hsm; clear hsm)
        have HM9 := Lib.hid (HSM9.out.mt H3.out)
        have HX9 := Lib.hid (HSM9.out.rt HX3.out hMg)
        have hsub9 := HSM9.out.aft.sub
        have hrd9 := HSM9.out.rdy 0 HRD4.out
        have HT9 : Hid (Tells (shRd s9.L) 0 0 (r3a, r3b) (upd (mpU b j) kk (some Lv))) := Lib.hid (HT4.out.mono hsub9)
        have HRD9 := Lib.hid hrd9
        clear b0 b1 lb hsub9 hrd9 HSM
        obtain ⟨w10, hu10, hm10, ho10⟩ := HM9.out.put hkkn Lv
        have cv1 : (convert 23 9 (.slice Av nv cv)).run Try.prog w9 = .ok (.string (strB Lv)) w9 := (HV.out.up HM9.out.rt.l.bel).str cv
        have HX10 := Lib.hid (HX9.out.offW ho10 (fun k e => by rw [e]; exact ⟨HM9.out.oM, HM9.out.geM, hMg⟩))
        have c0 := HX10.out.box.1
        have c1 := HX10.out.box.2.1
        have lc := HX10.out.box.lt
        simp only at c0 c1
        have HM10 := Lib.hid hm10
        have hln : (insP kk Lv ps).length ≤ 149796 := by rw [HM9.out.lst.set_len]; split <;> omega
        have HSM2 := Lib.hid (hm10.same HRD9.out (r2 := (r3a, r3b)) (.inr HT9.out) hln)
        simp only at HSM2
        clear hm10 ho10 hln
        go_wp2_with (go_at_call 13; refine HSM2.out.mono ?_; rintro e w11 ⟨rfl, s11, hsm⟩; have HSM11 := Lib.hid hsm; clear hsm)
        go_ret
        exact ⟨rfl, HSM11.out.l.bel⟩
      · have hr6 : room < 6 := hr6
        go_wp2_with (go_at_call 13; refine HSM.out.mono ?_; rintro e w11 ⟨rfl, s11, hsm⟩; have HSM11 := Lib.hid hsm; clear hsm)
        go_ret
        exact ⟨rfl, HSM11.out.l.bel⟩
end Go.Proofs.Ytbmlggieifaniaa
