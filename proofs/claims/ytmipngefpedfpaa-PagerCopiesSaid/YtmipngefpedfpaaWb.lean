/- PagerCopies, walked to its end. -/
import Derived.Test.YtmipngefpedfpaaWa
namespace Go.Proofs.Ytmipngefpedfpaa
open Go.RowKit Go.Maps
set_option linter.unusedVariables false
set_option linter.unusedSimpArgs false

theorem vin_sub {V V' : Nat → Prop} {v : Value} (h : VIn V v) (hs : ∀ b, V b → V' b) : VIn V' v := h.mono hs
theorem low10 {w9 w10 : World} {g1 : Nat} {v : Value} {L : Bytes} (h : SlB w9 v L) (hg : w9.heap.size = g1) (hb : Below g1 w9 w10) : SlB w10 v L ∧ VIn (fun b => b < g1) v := by
  subst hg
  exact ⟨h.up hb, h.inl⟩
theorem low_off {w10 w11 : World} {g1 : Nat} {v : Value} {L : Bytes} (h : SlB w10 v L ∧ VIn (fun b => b < g1) v) (ho : Off (· = g1) w10 w11) : SlB w11 v L ∧ VIn (fun b => b < g1) v :=
  ⟨h.1.offP ho (h.2.mono fun b hb e => by omega), h.2⟩
theorem low_up {w10 w11 : World} {g1 : Nat} {v : Value} {L : Bytes} (h : SlB w10 v L ∧ VIn (fun b => b < g1) v) (ho : Below w10.heap.size w10 w11) : SlB w11 v L ∧ VIn (fun b => b < g1) v := ⟨h.1.up ho, h.2⟩
theorem low_off2 {w10 w11 : World} {g1 g2 : Nat} {v : Value} {L : Bytes} (h : SlB w10 v L ∧ VIn (fun b => b < g1) v) (hg : g1 < g2) (ho : Off (· = g2) w10 w11) : SlB w11 v L := h.1.offP ho (h.2.mono fun b hb e => by omega)
theorem sby_of {w : World} {A : Option Addr} {n c : Nat} {L : Bytes} (h : SlB w (.slice A n c) L) : SBy w A n L := by
  obtain ⟨A', n', c', e, _, h2⟩ := h
  cases e
  exact h2
set_option maxRecDepth 100000 in
set_option maxHeartbeats 4000000 in
theorem copies_yes (w : World) {z off : Nat} {ev : Int} {A B : Option Addr} {na ca nb cb : Nat} {La Lb : Bytes} (hA : SBy w A na La) (hB : SBy w B nb Lb) (h1 : 16 ≤ z) (h2 : z ≤ 256) (h3 : na ≤ z) (h4 : off + nb ≤ z) :
    Calls Try.prog 3 #[.int .i64 (z : Nat), .slice A na ca, .slice B nb cb, .int .i64 (off : Nat), .int .i64 ev] w fun e w' => e = .returned (.bool true) ∧ Below w.heap.size w w' := by
  have HA := Lib.hid hA
  have HB := Lib.hid hB
  have g1 : (na : Int) ≤ (z : Int) := by omega
  have g2 : (off : Int) ≤ (z : Int) := by omega
  have g3 : (nb : Int) ≤ (z : Int) - (off : Int) := by omega
  clear hA hB
  go_enter Try.func3, Try.ntmps3
  go_wp2_with fail
  refine (known_any _).mono ?_
  rintro e wk ⟨rfl, hb⟩
  have HB0 := Lib.hid hb
  clear hb
  go_wp2_with fail
  refine (newShelf_any _).mono ?_
  rintro e w1 hs
  have HS := Lib.hid hs
  have he := hs.1
  subst he
  have HN := Lib.hid (pgNew_any (M := shM wk.heap.size) (P := shP) (z : Int) 2 (shNew_in hs).1 (shNew_in hs).2)
  clear hs
  go_wp2_with fail
  refine HN.out.mono ?_
  rintro e w2 (⟨_, _, hbad⟩ | ⟨d, t, rfl, _, hp⟩)
  · omega
  have hv := vw_new HS.out hp
  have HP := Lib.hid (show d.z = z ∧ d.n = 2 ∧ t.nx = 1 by have := hp.z; have := hp.n; have := hp.nx; simp at *; omega)
  have HA1 := Lib.hid (HA.out.up HB0.out)
  have HB1 := Lib.hid (HB.out.up HB0.out)
  clear hp HN HS
  have HM := Lib.hid (vw_make (k := 999999) hv)
  rw [show ((t.nx : Nat) : Int) = 1 by have := HP.out.2.2; omega, HP.out.1] at HM
  clear hv
  go_wp2_with fail
  refine HM.out.mono ?_
  rintro e w3 ⟨rfl, t3, hv3, _, hx3, _, _⟩
  have HN3 := Lib.hid (show t3.nx = 2 by have := HP.out; omega)
  obtain ⟨ha3, hva3⟩ := HA1.out.inV (c := ca) hv3
  have HW := Lib.hid (vw_write (id := 1) (b := zeros z) (off := 0) (k := 999998) hv3 trivial (updC_same _ _ _) ha3 (by rw [HP.out.1]; omega) hva3)
  clear hv3 ha3 hva3 hx3 HM
  go_wp2_with fail
  refine HW.out.mono ?_
  rintro e w4 ⟨rfl, t4, hv4, _, _, hn4⟩
  have HN4 := Lib.hid (show t4.nx = 2 by have := HN3.out; have := hn4.nx; omega)
  have HE := Lib.hid (fun n => vw_evict (k := 999995) (hv4.less (by rw [HP.out.2.1]; omega)) n)
  clear hv4 hn4 HW
  go_wp2_with fail
  refine (HE.out _).mono ?_
  rintro e w5 ⟨t5, j5, rfl, hv5, _, _, hn5, _⟩
  have HN5 := Lib.hid (show t5.nx = 2 by have := HN4.out; have := hn5.nx; omega)
  have HC := Lib.hid (vw_copy (id := 1) (b := setB (zeros z) 0 La) (k := 999993) hv5 trivial (updC_same _ _ _))
  rw [show ((t5.nx : Nat) : Int) = 2 by have := HN5.out; omega] at HC
  clear hv5 hn5 HE
  go_wp2_with fail
  refine HC.out.mono ?_
  rintro e w6 ⟨rfl, t6, hv6, _, _, _⟩
  obtain ⟨hb6, hvb6⟩ := HB1.out.inV (c := cb) hv6
  have HW := Lib.hid (vw_write (id := 2) (b := setB (zeros z) 0 La) (off := off) (k := 999992) hv6 trivial (updC_same _ _ _) hb6 (by rw [HP.out.1]; omega) hvb6)
  clear hv6 hb6 hvb6 HC
  go_wp2_with fail
  refine HW.out.mono ?_
  rintro e w7 ⟨rfl, t7, hv7, _, _, hn7⟩
  have HR := Lib.hid (vw_read (id := 1) (b := setB (zeros z) 0 La) (off := 0) (n := z) (k := 999991) hv7 trivial (by rw [updC_ne _ _ (by omega), updC_ne _ _ (by omega)]; exact updC_same _ _ _) (by rw [HP.out.1]; omega))
  clear hv7 hn7 HW
  go_wp2_with fail
  refine HR.out.mono ?_
  rintro e w8 ⟨t8, A8, c8, rfl, hv8, _, _, hn8, hs8, hi8⟩
  have HR2 := Lib.hid (vw_read (id := 2) (b := setB (setB (zeros z) 0 La) off Lb) (off := 0) (n := z) (k := 999990) hv8 trivial (updC_same _ _ _) (by rw [HP.out.1]; omega))
  have HS8 := Lib.hid hs8
  have HI8 := Lib.hid (show VIn (fun k => ¬ Own d t8 k) (.slice A8 z c8) from hi8.mono fun b h => h.1)
  clear hv8 hn8 hs8 hi8 HR
  go_wp2_with fail
  refine HR2.out.mono ?_
  rintro e w9 ⟨t9, A9, c9, rfl, hv9, hx9, _, hn9, hs9, hi9⟩
  have HS8b := Lib.hid (HS8.out.nx hx9 HI8.out)
  have HS9 := Lib.hid hs9
  have HV9 := Lib.hid (show Below wk.heap.size wk w9 from hv9.bel)
  have hlz : (setB (zeros z) 0 La).length = z := by rw [setB_len (by have := HA.out.1; rw [zeros_length]; omega), zeros_length]
  have hlz2 : (setB (setB (zeros z) 0 La) off Lb).length = z := by rw [setB_len (by have := HB.out.1; rw [hlz]; omega), hlz]
  rw [secP_all hlz] at HS8b
  rw [secP_all hlz2] at HS9
  have HL := Lib.hid hlz
  have HL2 := Lib.hid hlz2
  have HA9 := Lib.hid (HA1.out.up HV9.out)
  have HB9 := Lib.hid (HB1.out.up HV9.out)
  clear hv9 hx9 hn9 hs9 hi9 HR2 hlz hlz2 HS8 HI8
  have hmk := run_make_bytes z (by omega) w9
  obtain ⟨Bz, cz, ez, hbz, _⟩ := (FrB.zmade w9 z (by omega)).fresh (w0 := w9) (by omega) (Nat.le_refl _)
  cases ez
  have HBZ := Lib.hid hbz
  have HFZ := Lib.hid (FrB.zmade w9 z (by omega)).bel
  clear hbz
  go_upto_region 18 with (fail)
  generalize hgm : w9.alloc (.cells (madeCells #[.int .u8 0] z) 5) = w10 at *
  generalize hgs : w9.heap.size = g1 at *
  have hbel : Below g1 w9 w10 := by rw [← hgs]; rw [← hgs] at HFZ; exact HFZ.out
  have HB10 : Hid (SlB w10 (.slice B nb nb) Lb ∧ VIn (fun b => b < g1) (.slice B nb nb)) := Lib.hid (low10 ⟨_, _, _, rfl, Nat.le_refl _, HB9.out⟩ hgs hbel)
  have HA10 : Hid (SlB w10 (.slice A na na) La ∧ VIn (fun b => b < g1) (.slice A na na)) := Lib.hid (low10 ⟨_, _, _, rfl, Nat.le_refl _, HA9.out⟩ hgs hbel)
  have HU10 := Lib.hid (low10 HS8b.out hgs hbel)
  have HT10 := Lib.hid (low10 HS9.out hgs hbel)
  have HZ10 : Hid (Below wk.heap.size wk w10 ∧ wk.heap.size ≤ g1) := Lib.hid ⟨HV9.out.trans (hbel.mono (by rw [← hgs]; exact HV9.out.size)), by rw [← hgs]; exact HV9.out.size⟩
  have hna : La.length = na := HA.out.1
  have HNA := Lib.hid hna
  have HA11 : Hid (SBy w10 A na La) := Lib.hid (sby_of HA10.out.1)
  clear hmk HS8b HS9 HA9 HB9 hgm hgs hbel HFZ HA1 HB1 HV9 hna
  go_upto_region 19 with (with_reducible refine wpList_copy_by rfl (.tmp 112) (.tmp 113) rfl rfl rfl HBZ.out h1 HA11.out (by omega) (by omega) (fun _ => rfl) ?_; intro w11 hby11 ho11)
  have HY11 := Lib.hid hby11
  have HU11 := Lib.hid (low_off HU10.out ho11)
  have HT11 := Lib.hid (low_off HT10.out ho11)
  have HB11 := Lib.hid (low_off HB10.out ho11)
  have HZ11 : Hid (Below wk.heap.size wk w11) := Lib.hid (HZ10.out.1.trans (ho11.below (fun b hb => by rw [hb]; exact HZ10.out.2) HZ10.out.1.size))
  have HG11 : Hid (g1 ≤ w11.heap.size) := Lib.hid (Nat.le_of_lt (hby11.lt h1))
  clear hby11 ho11 HBZ HU10 HT10 HB10 HA10 HA11
  go_upto_region 20 with (at_builtin; go_must (refine wpList_appF rfl (.tmp 115) (.tmp 116) rfl w11 (.slice (some ⟨w11.heap.size, 0, none⟩) 0 0) [] _ rfl (FrB.lit w11) (some ⟨g1, 0, none⟩) z z rfl (HY11.out.sby.alloc _) (by simp; omega) z (by simp) ?_); intro A' c' w12 hf hgg)
  rw [List.nil_append] at hf
  obtain ⟨b2, hb2⟩ : ∃ b2, A' = some ⟨b2, 0, none⟩ := by
    obtain ⟨b2, o2, hA', _, _⟩ := hf.sby.2 (by omega)
    obtain ⟨A2, c2, e, _, _, _, hz0⟩ := hf.own.form
    injection e with e1 e2 e3
    obtain ⟨_, _, rfl⟩ := hz0 b2 o2 (e1.symm.trans hA')
    exact ⟨b2, hA'⟩
  subst hb2
  obtain ⟨Bz2, cz2, ez2, hby12, hbw12⟩ := hf.fresh (w0 := w11) (by omega) (Nat.le_refl _)
  cases ez2
  have HY12 := Lib.hid hby12
  have HU12 := Lib.hid (low_up HU11.out hf.bel)
  have HT12 := Lib.hid (low_up HT11.out hf.bel)
  have HB12 := Lib.hid (low_up HB11.out hf.bel)
  have HO12 : Hid (SBy w12 (some ⟨g1, 0, none⟩) z (setB (zeros z) 0 La)) := Lib.hid (HY11.out.sby.up hf.bel)
  have HZ12 : Hid (Below wk.heap.size wk w12) := Lib.hid (HZ11.out.trans (hf.bel.mono HZ11.out.size))
  have HBS : Hid (SBy w12 B nb Lb) := Lib.hid (sby_of HB12.out.1)
  have hcap := hby12.cap
  have HGB : Hid (g1 < b2 ∧ wk.heap.size ≤ b2) := Lib.hid ⟨by have := HY11.out.lt h1; omega, by have := HZ11.out.size; omega⟩
  clear hf hgg hby12 hbw12 HY11 HU11 HT11 HB11 HZ11
  have hse := strB_eq (setB (zeros z) 0 La) (setB (zeros z) 0 La)
  have hse2 := strB_eq (setB (setB (zeros z) 0 La) off Lb) (setB (setB (zeros z) 0 La) off Lb)
  rw [decide_eq_true rfl] at hse hse2
  by_cases hcz : off = c'
  · subst hcz
    obtain rfl : off = z := by omega
    obtain rfl : nb = 0 := by omega
    go_upto_region 21 with (with_reducible refine wpList_copy_by (off := off) rfl (.tmp 120) (.tmp 121) rfl rfl rfl HY12.out h1 HBS.out h4 (by omega) (fun h => absurd h (by omega)) ?_; intro w13 hby13 ho13)
    have hu := (low_off2 HU12.out HGB.out.1 ho13)
    have ht := (low_off2 HT12.out HGB.out.1 ho13)
    have cv1 : (convert 22 9 (.slice A8 off c8)).run Try.prog w13 = .ok (.string (strB (setB (zeros off) 0 La))) w13 := (sby_of hu).str c8
    have cv2 : (convert 22 9 (.slice A9 off c9)).run Try.prog w13 = .ok (.string (strB (setB (setB (zeros off) 0 La) off Lb))) w13 := (sby_of ht).str c9
    have cv3 := (HO12.out.off ho13 (fun k o e => by cases e; have := HGB.out.1; omega)).str off
    have cv4 := hby13.sby.str off
    have HB13 := Lib.hid (HZ12.out.trans (ho13.below (fun b hb => by rw [hb]; exact HGB.out.2) HZ12.out.size))
    clear hu ht hby13 ho13 HY12 HU12 HT12 HB12 HO12 HBS
    generalize setB (setB (zeros off) 0 La) off Lb = X2 at *
    generalize setB (zeros off) 0 La = X1 at *
    go_wp2
    go_ret
    exact ⟨rfl, HB0.out.trans (HB13.out.mono HB0.out.size)⟩
  · go_upto_region 21 with (with_reducible refine wpList_copy_by rfl (.tmp 120) (.tmp 121) rfl rfl rfl HY12.out h1 HBS.out h4 rfl (fun _ => rfl) ?_; intro w13 hby13 ho13)
    have hu := (low_off2 HU12.out HGB.out.1 ho13)
    have ht := (low_off2 HT12.out HGB.out.1 ho13)
    have cv1 : (convert 22 9 (.slice A8 z c8)).run Try.prog w13 = .ok (.string (strB (setB (zeros z) 0 La))) w13 := (sby_of hu).str c8
    have cv2 : (convert 22 9 (.slice A9 z c9)).run Try.prog w13 = .ok (.string (strB (setB (setB (zeros z) 0 La) off Lb))) w13 := (sby_of ht).str c9
    have cv3 := (HO12.out.off ho13 (fun k o e => by cases e; have := HGB.out.1; omega)).str z
    have cv4 := hby13.sby.str c'
    have HB13 := Lib.hid (HZ12.out.trans (ho13.below (fun b hb => by rw [hb]; exact HGB.out.2) HZ12.out.size))
    clear hu ht hby13 ho13 HY12 HU12 HT12 HB12 HO12 HBS
    generalize setB (setB (zeros z) 0 La) off Lb = X2 at *
    generalize setB (zeros z) 0 La = X1 at *
    go_wp2
    go_ret
    exact ⟨rfl, HB0.out.trans (HB13.out.mono HB0.out.size)⟩
end Go.Proofs.Ytmipngefpedfpaa
