/- PagerBad, walked. -/
import Derived.Test.YtmipngefpedfpaaXsZ
import Derived.Test.YtmipngefpedfpaaXtZ
import Derived.Test.YtmipngefpedfpaaXwZ
namespace Go.Proofs.Ytmipngefpedfpaa
open Go.RowKit Go.Maps
set_option linter.unusedVariables false
set_option linter.unusedSimpArgs false

section
variable {w0 w w' w1 w2 : World} {Wb S : Nat} {d : PD} {t t' t1 t2 : PSt ShS} {R : Prop} {k k1 : Nat} {vi vb : Value} {xs : List Pe}
set_option maxRecDepth 100000 in
set_option maxHeartbeats 8000000 in
theorem bad_walk (W : World) {size : Int} {A B : Option Addr} {n c nb cb : Nat} {b : Nat → Ac} {L : Bytes} (h : Acs W A n b) (hn : n ≤ 9223372036854775807) (hB : SBy W B nb L) (hcb : nb ≤ cb) :
    Calls Try.prog 7 #[.int .i64 size, .slice B nb cb, .slice A n c] W fun e w' => e = .returned (.bool true) ∧ Below W.heap.size W w' := by
  have HP := Lib.hid h
  have HBB := Lib.hid (And.intro hB hcb)
  have HFW := Lib.hid (fun (w : World) (hb : Below W.heap.size W w) => few_any (c := c) (h.up hb) hn)
  clear h hB hcb
  go_enter Try.func7, Try.ntmps7
  go_wp2_with fail
  refine (known_any _).mono ?_
  rintro e wk ⟨rfl, hb⟩
  have HB0 := Lib.hid hb
  have HF := Lib.hid (HFW.out _ hb)
  clear hb HFW
  go_upto_region 3 with (fail)
  go_cut [39] from 24 to 38 (fun v V => ∃ bb, v = .bool bb ∧ V = wk ∧ (bb = false → fewB b n = true ∧ 16 ≤ size ∧ size ≤ 256 ∧ nb ≤ 600))
  case first =>
    go_wp2_with fail
    refine HF.out.mono ?_
    rintro e w1 ⟨rfl, rfl⟩
    generalize fewB b n = fw at *
    cases fw with
    | false =>
      go_wp2_with fail
      go_meet
      exact ⟨true, rfl, rfl, fun e => by cases e⟩
    | true =>
      go_wp2_with fail
      all_goals
        go_meet
        first
          | exact ⟨_, rfl, rfl, fun e => ⟨by trivial, by simp at e; omega, by simp at e; omega, by simp at e; omega⟩⟩
          | exact ⟨true, rfl, rfl, fun e => by cases e⟩
  case rest =>
  obtain ⟨bb, rfl, hwk, hbb⟩ := hcut
  replace hwk := hwk.symm
  subst hwk
  cases bb with
  | true =>
    go_wp2
    go_ret
    exact ⟨rfl, HB0.out⟩
  | false =>
  obtain ⟨hf, hs1, hs2, hnb⟩ := hbb rfl
  obtain ⟨hn150, hin⟩ := HP.out.in_ hf
  have HIN := Lib.hid (fun k hk => (hin k hk).up HB0.out)
  have HPK := Lib.hid (HP.out.up HB0.out)
  obtain ⟨z, rfl⟩ := Int.eq_ofNat_of_zero_le (show 0 ≤ size by omega)
  have hz1 : 16 ≤ z := by omega
  have hz2 : z ≤ 256 := by omega
  clear HF hf hbb hin HP hs1 hs2
  go_wp2_with fail
  refine (newShelf_any _).mono ?_
  rintro e w1 hs
  have HS := Lib.hid hs
  have he := hs.1
  subst he
  have HN := Lib.hid (pgNew_any (M := shM wk.heap.size) (P := shP) (z : Int) 2 (shNew_in hs).1 (shNew_in hs).2)
  clear hs
  go_wp2_with fail
  refine HN.out.mono ?_
  rintro e w2 (⟨_, _, hbad⟩ | ⟨d, t, rfl, hg, hp⟩)
  · exfalso; omega
  have hdz : d.z = z := by have := hp.z; simpa using this
  have hdn : d.n = 2 := by have := hp.n; simpa using this
  subst hdz
  have hwa := wa_new (vw_new HS.out hp) (by omega) hp.cm 51
  rw [hdn] at hwa
  have HWA := Lib.hid hwa
  clear hp hg HN HS hwa
  generalize wk.heap.size = S at *
  go_upto_region 10 with (fail)
  refine wp_forget (fun V => WA wk V w2.heap.size S d t True 1000000 (.slice none 0 0) (.slice none 0 0) []) HWA.out ?_
  intro w3 hw3
  have HW3 := Lib.hid (show PlW wk w3 w2.heap.size S d 0 t (.slice none 0 0) (.slice none 0 0) [] from ⟨hw3.less (by omega), Nat.le_refl _⟩)
  clear hw3 HWA
  generalize w2.heap.size = Wb at *
  go_wp2
  go_loopw [11] (fun iv wr => ∃ (j : Nat) (t : PSt ShS) (vi vb : Value) (xs : List Pe), j ≤ n ∧ iv = .int .i64 (j : Nat) ∧ PlW wk wr Wb S d j t vi vb xs) (fun iv _ => n - (intOf iv).toNat)
  case atStart => exact ⟨0, _, _, _, _, Nat.zero_le _, rfl, HW3.out⟩
  case round =>
    obtain ⟨j, t, vi, vb, xs, hj, rfl, hat⟩ := hrel
    have HAT := Lib.hid hat
    clear HW3 hat
    by_cases hjn : j < n
    · have hjI : (j : Int) < (n : Int) := by omega
      obtain ⟨g, o, rfl, hgl⟩ := HPK.out.some_ (by omega)
      have hk5 := HPK.out.at5 HAT.out.wa.vw.bel rfl hjn
      have HST := Lib.hid (step_any (k := 950000 - 5000 * (j + 1)) (HAT.out.wa.less (by omega)) (HIN.out j hjn) (by have := HAT.out.few; omega))
      obtain ⟨k0, k1, k2, k3, k4⟩ := hk5
      unfold Ac.cells at HST
      obtain ⟨aj, haj⟩ : ∃ aj, b j = aj := ⟨_, rfl⟩
      rw [haj] at HST k0 k1 k2 k3 k4
      obtain ⟨op, page, off, na, Aa, nba, cba, bb⟩ := aj
      simp only at HST k0 k1 k2 k3 k4
      clear haj
      go_wp2_with fail
      refine HST.out.mono ?_
      rintro e w4 ⟨rfl, t4, vi4, vb4, xs4, hw4, hl4⟩
      have HW4 := Lib.hid hw4
      have HL4 := Lib.hid (show xs4.length ≤ j + 1 by have := HAT.out.few; omega)
      clear HAT HST k0 k1 k2 k3 k4 hw4 hl4
      go_wp2
      go_roundw
      case rel => exact ⟨j + 1, t4, vi4, vb4, xs4, by omega, by go_num, HW4.out, HL4.out⟩
      case measure => simp [intOf]; omega
    · obtain rfl : j = n := by omega
      have hjI : ¬ (j : Int) < (j : Int) := by omega
      have HW4 := Lib.hid (HAT.out.wa.less (k1 := 100000) (by omega))
      have hxl : xs.length ≤ 150 := by have := HAT.out.few; omega
      obtain ⟨Ai, ci, hvi, _⟩ := HAT.out.wa.wl.formI
      clear HAT HPK HIN
      subst hvi
      -- Put
      have hBr := (HBB.out.1.up HB0.out).up HW4.out.vw.bel
      have HPU := Lib.hid (vw_shPutB (k := 99999) (c := cb) (A := B) (n := nb) (b := L) HW4.out.vw (HW4.out.vw.room trivial) ⟨_, _, _, rfl, HBB.out.2, hBr⟩ (by rw [hBr.1]; omega))
      have HLN := Lib.hid hBr.1
      clear hBr
      go_wp2_with fail
      refine HPU.out.mono ?_
      rintro e w5 ⟨t5, ⟨e1, e2⟩, rfl, hv5, hn5, hm5, _, hr5, _⟩
      unfold addrV
      have HV5 := Lib.hid hv5
      have HN5 := Lib.hid hn5
      have HM5 := Lib.hid hm5.nx
      have HR5 := Lib.hid hr5
      have HB5 : Hid (Below w5.heap.size w5 (w5.alloc (.cells #[.int .i64 e1, .int .i64 e2] 40))) := Lib.hid ((Below.refl _ _).alloc (Nat.le_refl _) _)
      have HBR := Lib.hid (vw_bring2 (k := 99998) (o := if L.length = d.z then some L else none) (HV5.out.up HB5.out) (e1, e2) (fun b e => by
        by_cases hl : L.length = d.z
        · rw [if_pos hl] at e; cases e; exact ⟨hr5, hl⟩
        · rw [if_neg hl] at e; cases e))
      clear hv5 hn5 hm5 hr5 HPU
      go_wp2_with fail
      refine HBR.out.mono ?_
      rintro e w6 ⟨rfl, t6, hv6, hn6, he6, hp6, hx6, hs6⟩
      have HV6 := Lib.hid hv6
      have HN6 := Lib.hid hn6
      have HP6 := Lib.hid hp6
      have HX6 := Lib.hid hx6
      have HS6 := Lib.hid hs6
      have HBR2 := Lib.hid (vw_bring2 (k := 99997) (o := none) HV6.out (1073741824, 20) (fun b e => by cases e))
      clear hv6 hn6 he6 hp6 hx6 hs6 HBR
      go_wp2_with fail
      refine HBR2.out.mono ?_
      rintro e w7 ⟨rfl, t7, hv7, hn7, he7, hp7, _⟩
      have HBD := Lib.hid (bd_begin HW4.out HV5.out HN5.out HM5.out HR5.out HB5.out HN6.out HP6.out HX6.out HS6.out (Below.refl _ _) (hv7.less (k' := 99995) (by omega)) hn7 he7 hp7)
      clear hv7 hn7 he7 hp7 HBR2 HV5 HN5 HM5 HR5 HB5 HV6 HN6 HP6 HX6 HS6 HW4
      generalize updC (updC (CnX xs) t5.nx (some (if L.length = d.z then some L else none))) t6.nx (some none) = C at *
      generalize ((t5.nx : Nat) : Int) = i1 at *
      generalize ((t6.nx : Nat) : Int) = i2 at *
      go_upto_region 18 with (fail)
      go_cut [16, 17] from 84 to 90 (fun s16 s17 V => ∃ (t8 : PSt ShS) (A8 : Option Addr) (n8 c8 : Nat) (f : Int), s16 = .slice A8 n8 c8 ∧ s17 = .int .i64 f ∧ BdW wk V Wb S d t8 99994 (.slice Ai xs.length ci) vb xs C i1 i2 (e1, e2) L ∧ RdB V d t8 A8 n8 c8 f L)
      case first =>
        by_cases hl : L.length = d.z
        · have HR := Lib.hid (bd_read_ok (HBD.out) hl)
          have HL := Lib.hid hl
          clear hl
          go_wp2_with fail
          refine HR.out.mono ?_
          rintro e w8 ⟨t8, A8, n8, c8, rfl, hq, hs⟩
          have HQ := Lib.hid hq
          have HS8 := Lib.hid hs
          clear hq hs HR
          go_wp2_with fail
          go_meet
          exact ⟨t8, A8, n8, c8, 0, rfl, rfl, HQ.out, .inl ⟨HL.out, HS8.out⟩⟩
        · have HR := Lib.hid (bd_read_bad (HBD.out) hl)
          have HL := Lib.hid hl
          clear hl
          go_wp2_with fail
          refine HR.out.mono ?_
          rintro e w8 ⟨t8, rfl, hq⟩
          have HQ := Lib.hid hq
          clear hq HR
          go_wp2_with fail
          go_meet
          exact ⟨t8, _, _, _, 20, rfl, rfl, HQ.out, .inr ⟨HL.out, rfl⟩⟩
      case rest =>
      obtain ⟨t8, A8, n8, c8, f8, rfl, rfl, hq, hcase⟩ := hcut
      have HQ8 := Lib.hid hq
      have HC8 := Lib.hid hcase
      have HR := Lib.hid (bd_read2 hq)
      clear hq hcase HBD
      go_wp2_with fail
      refine HR.out.mono ?_
      rintro e w9 ⟨t9, rfl, hq9, hn9⟩
      have HQ9 := Lib.hid hq9
      have HC9 := Lib.hid (HC8.out.nx hn9)
      have k3 := kc w9 #[.int .u8 113] 1 1
      have hb3 : Below w9.heap.size w9 (w9.alloc (.cells #[.int .u8 113] 5 (1, 2))) := (Below.refl _ _).alloc (Nat.le_refl _) _
      have HB3 := Lib.hid hb3
      have HW := Lib.hid (bd_write2 (cb := 1) (hq9.up hb3) (sby_row w9 #[.int .u8 113] [113] _ _ rfl) (by simp; omega) (vin_new hq9.wc.vw (Nat.le_refl _)))
      clear hq9 hn9 HC8 HQ8 hb3 HR
      go_wp2_with fail
      refine HW.out.mono ?_
      rintro e w10 ⟨t10, rfl, hq10, hn10⟩
      have HQ10 := Lib.hid hq10
      have HC10 := Lib.hid ((HC9.out.up HB3.out).nx hn10)
      clear hq10 hn10 HW HQ9 HC9 HB3 k3
      go_upto_region 21 with (fail)
      go_cut [131] from 103 to 130 (fun v V => v = .bool false ∧ V = w10)
      case first =>
        rcases HC10.out with ⟨hl, hs, _⟩ | ⟨hl, rfl⟩
        · have hnz : nb = d.z := by have := HLN.out; omega
          have cv1 := (sl_sby' hs).str c8
          have cv2 := (((HBB.out.1.up HB0.out).up HQ10.out.wc.vw.bel)).str cb
          have hse := strB_eq L L
          rw [decide_eq_true rfl] at hse
          subst hnz
          clear hl hs
          go_wp2_with fail
          go_meet
          exact ⟨rfl, rfl⟩
        · have hne : ((nb : Int) == (d.z : Int)) = false := by have := HLN.out; simp; omega
          have hne2 : ((nb : Int) != (d.z : Int)) = true := by have := HLN.out; simp; omega
          clear hl
          go_wp2_with fail
          go_meet
          exact ⟨rfl, rfl⟩
      case rest =>
      obtain ⟨rfl, hwc⟩ := hcut
      subst hwc
      clear HC10
      have HB10 := Lib.hid (show BdW wk wc Wb S d t10 99990 (.slice Ai xs.length ci) vb xs C i1 i2 (e1, e2) L from ⟨HQ10.out.wc.less (by omega), HQ10.out.p1, HQ10.out.p2, HQ10.out.r1, HQ10.out.c1, HQ10.out.c2⟩)
      clear HQ10
      go_wp2
      go_loopw [21] (fun iv wr2 => ∃ (q : Nat) (t : PSt ShS), q ≤ xs.length ∧ iv = .int .i64 (q : Nat) ∧ BdW wk wr2 Wb S d t (99990 - q) (.slice Ai xs.length ci) vb xs C i1 i2 (e1, e2) L) (fun iv _ => xs.length - (intOf iv).toNat)
      case atStart => exact ⟨0, t10, Nat.zero_le _, rfl, HB10.out⟩
      case round =>
        obtain ⟨q, t, hq, rfl, hat⟩ := hrel
        have HAT := Lib.hid hat
        have q4 := hat.wc.wl.c4
        have lW := hat.wc.wl.ltW
        clear HB10 hat
        by_cases hql : q < xs.length
        · have hqI : (q : Int) < (xs.length : Int) := by omega
          obtain ⟨x, hqx⟩ : ∃ x, xs[q]? = some x := ⟨_, List.getElem?_eq_getElem hql⟩
          have HR := Lib.hid (bd_wread (k := 99990 - (q + 1)) (by rw [show 99990 - (q + 1) + 1 = 99990 - q by omega]; exact HAT.out) hqx)
          clear hqx
          go_wp2_with fail
          refine HR.out.mono ?_
          rintro e w11 ⟨rfl, t11, hw11⟩
          have HW11 := Lib.hid hw11
          clear hw11 HR HAT q4 lW
          go_wp2
          go_roundw
          case rel => exact ⟨q + 1, t11, by omega, by go_num, HW11.out⟩
          case measure => simp [intOf]; omega
        · obtain rfl : q = xs.length := by omega
          have hqI : ¬ (xs.length : Int) < (xs.length : Int) := by omega
          have HD := Lib.hid (bd_drop HAT.out)
          clear HAT
          go_wp2_with fail
          refine HD.out.mono ?_
          rintro e w12 ⟨rfl, hb12⟩
          have HBF := Lib.hid (bel2 HB0.out hb12)
          clear hb12 HD q4 lW
          go_wp2
          go_ret
          exact ⟨rfl, HBF.out⟩
end
end Go.Proofs.Ytmipngefpedfpaa
