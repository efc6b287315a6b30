/- PagerFull, walked. -/
import Derived.Test.YtmipngefpedfpaaXsZ
namespace Go.Proofs.Ytmipngefpedfpaa
open Go.RowKit Go.Maps
set_option linter.unusedVariables false
set_option linter.unusedSimpArgs false

section
variable {w0 w w' w1 w2 : World} {Wb S : Nat} {d : PD} {t t' t1 t2 : PSt ShS} {R R' : Prop} {k k1 : Nat} {vi vb : Value} {xs : List Pe} {C : Cn}
theorem Vw.reR (h : Vw S w0 w d t C R k) (hR : R' → shP.room t.s < 0) : Vw S w0 w d t C R' k := ⟨h.at_, h.inv, h.own, h.bel, h.hole, h.dom, h.con, hR, h.rdy, h.nb, h.id1⟩
/-- The law says how much room there is. -/
theorem WA.setFull (h : WA w0 w Wb S d t R k vi vb xs) (x : Int) (hx : x < 9223372036854775808) (hR : R' → x < 0) : WA w0 (w.setCell ⟨S, 3, none⟩ (.int .i64 x)) Wb S d { t with s := { t.s with full := x } } R' k vi vb xs := by
  obtain ⟨rv, vs, ov, hin, h1, h2, h3, h4, h5⟩ := h.vw.at_.at_
  have ho : Off (· = S) w (w.setCell ⟨S, 3, none⟩ (.int .i64 x)) := (Off.refl (· = S) w).setCell (p := ⟨S, 3, none⟩) rfl _
  have hat : (shM S).At (w.setCell ⟨S, 3, none⟩ (.int .i64 x)) t.O { t.s with full := x } := ⟨rv, vs, ov, hin.setFull x hx, h1, h2, h3, h4, fun k hk => Nat.lt_of_lt_of_le (h5 k hk) ho.size⟩
  obtain ⟨g1, g2⟩ := (h.vw.reR (R' := False) (fun f => f.elim)).sink (k1 := k) (O' := t.O) (s' := { t.s with full := x }) hat (ho.mono fun b e => by rw [e]; exact h1) (fun _ => .inl) h.vw.inv.inn (SubR.refl _) (fun f => f.elim) ⟨h.vw.rdy.1, h.vw.rdy.2.1, h.vw.rdy.2.2.1, hx⟩ (Nat.le_refl _)
  exact ⟨g1.reR hR, h.wl.nx g2, h.up, h.cm⟩
theorem WA.shCell (h : WA w0 w Wb S d t R k vi vb xs) : w.cell? ⟨S, 3, none⟩ = some (.int .i64 t.s.full) ∧ w.frozen? ⟨S, 3, none⟩ = false ∧ S < w.heap.size := by
  obtain ⟨rv, vs, ov, hin, _⟩ := h.vw.at_.at_
  exact ⟨hin.c3, hin.fr 3, lt_of_cell hin.c3⟩
set_option maxRecDepth 100000 in
set_option maxHeartbeats 8000000 in
theorem full_walk (W : World) {size held room : Int} {A A2 : Option Addr} {n c n2 c2 : Nat} {b b2 : Nat → Ac} (h : Acs W A n b) (hn : n ≤ 9223372036854775807) (h2 : Acs W A2 n2 b2) (hn2 : n2 ≤ 9223372036854775807) :
    Calls Try.prog 6 #[.int .i64 size, .int .i64 held, .slice A n c, .int .i64 room, .slice A2 n2 c2] W fun e w' => e = .returned (.bool true) ∧ Below W.heap.size W w' := by
  have HP := Lib.hid h
  have HP2 := Lib.hid h2
  have HFW := Lib.hid (fun (w : World) (hb : Below W.heap.size W w) => few_any (c := c) (h.up hb) hn)
  have HFW2 := Lib.hid (fun (w : World) (hb : Below W.heap.size W w) => few_any (c := c2) (h2.up hb) hn2)
  clear h h2
  go_enter Try.func6, Try.ntmps6
  go_wp2_with fail
  refine (known_any _).mono ?_
  rintro e wk ⟨rfl, hb⟩
  have HB0 := Lib.hid hb
  have HF := Lib.hid (HFW.out _ hb)
  have HF2 := Lib.hid (HFW2.out _ hb)
  clear hb HFW HFW2
  go_upto_region 3 with (fail)
  go_cut [54] from 23 to 53 (fun v V => ∃ bb, v = .bool bb ∧ V = wk ∧ (bb = false → fewB b n = true ∧ fewB b2 n2 = true ∧ 16 ≤ size ∧ size ≤ 256 ∧ 1 ≤ held ∧ held ≤ 20 ∧ 0 ≤ room ∧ room ≤ 10))
  case first =>
    go_wp2_with fail
    refine HF.out.mono ?_
    rintro e w1 ⟨rfl, rfl⟩
    generalize fewB b n = fw at *
    cases fw with
    | false =>
      go_wp2_with fail
      go_meet
      exact ⟨true, rfl, rfl, fun e => by cases e⟩
    | true =>
      go_wp2_with fail
      refine HF2.out.mono ?_
      rintro e w1 ⟨rfl, rfl⟩
      generalize fewB b2 n2 = fw2 at *
      cases fw2 with
      | false =>
        go_wp2_with fail
        go_meet
        exact ⟨true, rfl, rfl, fun e => by cases e⟩
      | true =>
        go_wp2_with fail
        all_goals
          go_meet
          first
            | exact ⟨_, rfl, rfl, fun e => by simp at e; refine ⟨by trivial, by trivial, ?_⟩; omega⟩
            | exact ⟨true, rfl, rfl, fun e => by cases e⟩
  case rest =>
  obtain ⟨bb, rfl, hwk, hbb⟩ := hcut
  replace hwk := hwk.symm
  subst hwk
  cases bb with
  | true =>
    go_wp2
    go_ret
    exact ⟨rfl, HB0.out⟩
  | false =>
  obtain ⟨hf, hf2, hs1, hs2, hh1, hh2, hr1, hr2⟩ := hbb rfl
  obtain ⟨hn150, hin⟩ := HP.out.in_ hf
  obtain ⟨hm150, hin2⟩ := HP2.out.in_ hf2
  have HIN := Lib.hid (fun k hk => (hin k hk).up HB0.out)
  have HPK := Lib.hid (HP.out.up HB0.out)
  have HIN2 := Lib.hid (fun k hk => (hin2 k hk).up HB0.out)
  have HPK2 := Lib.hid (HP2.out.up HB0.out)
  obtain ⟨z, rfl⟩ := Int.eq_ofNat_of_zero_le (show 0 ≤ size by omega)
  obtain ⟨m, rfl⟩ := Int.eq_ofNat_of_zero_le (show 0 ≤ held by omega)
  have hz1 : 16 ≤ z := by omega
  have hz2 : z ≤ 256 := by omega
  have HRM := Lib.hid (And.intro hr1 hr2)
  clear HF HF2 hf hf2 hbb hin hin2 HP HP2 hs1 hs2 hr1 hr2
  go_wp2_with fail
  refine (newShelf_any _).mono ?_
  rintro e w1 hs
  have HS := Lib.hid hs
  have he := hs.1
  subst he
  have HN := Lib.hid (pgNew_any (M := shM wk.heap.size) (P := shP) (z : Int) (m : Int) (shNew_in hs).1 (shNew_in hs).2)
  clear hs
  go_wp2_with fail
  refine HN.out.mono ?_
  rintro e w2 (⟨_, _, hbad⟩ | ⟨d, t, rfl, hg, hp⟩)
  · exfalso; omega
  have hdz : d.z = z := by have := hp.z; simpa using this
  have hdn : d.n = m := by have := hp.n; simpa using this
  subst hdz
  subst hdn
  have hwa := wa_new (vw_new HS.out hp) (by omega) hp.cm 51
  have HWA := Lib.hid hwa
  clear hp hg HN HS hwa
  generalize wk.heap.size = S at *
  go_upto_region 10 with (fail)
  refine wp_forget (fun V => WA wk V w2.heap.size S d t True 1000000 (.slice none 0 0) (.slice none 0 0) []) HWA.out ?_
  intro w3 hw3
  have HW3 := Lib.hid (show PlW wk w3 w2.heap.size S d 0 t (.slice none 0 0) (.slice none 0 0) [] from ⟨hw3.less (by omega), Nat.le_refl _⟩)
  clear hw3 HWA
  generalize w2.heap.size = Wb at *
  go_wp2
  go_loopw [15] (fun iv wr => ∃ (j : Nat) (t : PSt ShS) (vi vb : Value) (xs : List Pe), j ≤ n ∧ iv = .int .i64 (j : Nat) ∧ PlW wk wr Wb S d j t vi vb xs) (fun iv _ => n - (intOf iv).toNat)
  case atStart => exact ⟨0, _, _, _, _, Nat.zero_le _, rfl, HW3.out⟩
  case round =>
    obtain ⟨j, t, vi, vb, xs, hj, rfl, hat⟩ := hrel
    have HAT := Lib.hid hat
    clear HW3 hat
    by_cases hjn : j < n
    · have hjI : (j : Int) < (n : Int) := by omega
      obtain ⟨g, o, rfl, hgl⟩ := HPK.out.some_ (by omega)
      have hk5 := HPK.out.at5 HAT.out.wa.vw.bel rfl hjn
      have HST := Lib.hid (step_any (k := 950000 - 5000 * (j + 1)) (HAT.out.wa.less (by omega)) (HIN.out j hjn) (by have := HAT.out.few; omega))
      obtain ⟨k0, k1, k2, k3, k4⟩ := hk5
      unfold Ac.cells at HST
      obtain ⟨aj, haj⟩ : ∃ aj, b j = aj := ⟨_, rfl⟩
      rw [haj] at HST k0 k1 k2 k3 k4
      obtain ⟨op, page, off, na, Aa, nba, cba, bb⟩ := aj
      simp only at HST k0 k1 k2 k3 k4
      clear haj
      go_wp2_with fail
      refine HST.out.mono ?_
      rintro e w4 ⟨rfl, t4, vi4, vb4, xs4, hw4, hl4⟩
      have HW4 := Lib.hid hw4
      have HL4 := Lib.hid (show xs4.length ≤ j + 1 by have := HAT.out.few; omega)
      clear HAT HST k0 k1 k2 k3 k4 hw4 hl4
      go_wp2
      go_roundw
      case rel => exact ⟨j + 1, t4, vi4, vb4, xs4, by omega, by go_num, HW4.out, HL4.out⟩
      case measure => simp [intOf]; omega
    · obtain rfl : j = n := by omega
      have hjI : ¬ (j : Int) < (j : Int) := by omega
      have HW4 := Lib.hid (HAT.out.wa.less (k1 := 100000) (by omega))
      have hxl : xs.length ≤ 150 := by have := HAT.out.few; omega
      clear HAT HPK HIN
      obtain ⟨qf, ff, lS⟩ := HW4.out.shCell
      have HW5 := Lib.hid (HW4.out.setFull (R' := False) room (by have := HRM.out; omega) (fun f => f.elim))
      clear HW4
      go_upto_region 15 with (fail)
      go_cut [91] from 89 to 92 (fun _ V => ∃ t, WA wk V Wb S d t False 100000 vi vb xs)
      case first =>
        go_wp2_with fail
        go_meet
        exact ⟨_, HW5.out⟩
      case rest =>
      obtain ⟨t5, hw5⟩ := hcut
      have HW6 := Lib.hid hw5
      clear hw5 HW5 qf ff lS
      rename_i K1 hK1
      refine hK1 _ _ ?_
      clear hK1 K1
      refine Go.wp_seq_k (fun K2 hK2 => ?_)
      go_cut [16, 17, 18, 19] from 93 to 159 (fun s16 s17 s18 s19 V => ∃ t xs', WA wk V Wb S d t False 90000 vi vb xs' ∧ xs'.length = xs.length)
      case first =>
        go_wp2
        go_loopw [16] (fun iv wr2 => ∃ (q : Nat) (t : PSt ShS) (xs' : List Pe), q ≤ n2 ∧ iv = .int .i64 (q : Nat) ∧ WA wk wr2 Wb S d t False (100000 - q) vi vb xs' ∧ xs'.length = xs.length) (fun iv _ => n2 - (intOf iv).toNat)
        case atStart => exact ⟨0, t5, xs, Nat.zero_le _, rfl, HW6.out, rfl⟩
        case round =>
          obtain ⟨q, t, xs', hq, rfl, hat, hlen⟩ := hrel
          have HAT := Lib.hid hat
          have HLE := Lib.hid hlen
          clear HW6 hat hlen
          by_cases hqn : q < n2
          · have hqI : (q : Int) < (n2 : Int) := by omega
            obtain ⟨g, o, rfl, hgl⟩ := HPK2.out.some_ (by omega)
            have hk5 := HPK2.out.at5 HAT.out.vw.bel rfl hqn
            have HWC := Lib.hid (which_any HAT.out.wl (b2 q))
            have HI2 := Lib.hid (HIN2.out q hqn)
            obtain ⟨k0, k1, k2, k3, k4⟩ := hk5
            unfold Ac.cells at HWC
            obtain ⟨aj, haj⟩ : ∃ aj, b2 q = aj := ⟨_, rfl⟩
            rw [haj] at HWC HI2 k0 k1 k2 k3 k4
            obtain ⟨op, page, off, na, Aa, nba, cba, bba⟩ := aj
            simp only at HWC k0 k1 k2 k3 k4
            clear haj
            go_wp2_with fail
            refine HWC.out.mono ?_
            rintro e w6 ⟨hb6, ⟨hm, rfl⟩ | ⟨qk, hqk, rfl⟩⟩
            · have HW6 := Lib.hid (HAT.out.up' hb6)
              clear HAT HWC hb6 k0 k1 k2 k3 k4
              go_wp2_with fail
              go_meet
              exact ⟨t, xs', HW6.out.less (by omega), HLE.out⟩
            · have HW6 := Lib.hid (HAT.out.up' hb6)
              have kk : ∀ j v, wr.cell? ⟨g, o + q * 5 + j, none⟩ = some v → w6.cell? ⟨g, o + q * 5 + j, none⟩ = some v := fun j v e => (hb6.cell (p := ⟨g, o + q * 5 + j, none⟩) (lt_of_cell e)).trans e
              replace k0 := kk 0 _ k0
              replace k1 := kk 1 _ k1
              replace k2 := kk 2 _ k2
              replace k3 := kk 3 _ k3
              replace k4 := kk 4 _ k4
              clear HAT HWC hb6 kk
              simp only [Nat.add_zero] at k0
              have hqn0 : ¬ (qk : Int) < 0 := by omega
              have lg6 := lt_of_cell k0
              have HW7 := Lib.hid (HW6.out.up' (bel_al w6 #[.int .i64 op, .int .i64 page, .int .i64 off, .int .i64 na, .slice Aa nba cba] 54))
              have HA7 : Hid (Ax wk (w6.alloc (.cells #[.int .i64 op, .int .i64 page, .int .i64 off, .int .i64 na, .slice Aa nba cba] 54)) d t Wb vi vb xs' w6.heap.size ⟨op, page, off, na, Aa, nba, cba, bba⟩) := Lib.hid ⟨AcB.new w6 ⟨op, page, off, na, Aa, nba, cba, bba⟩ 54, HW6.out.bes (Nat.le_refl _)⟩
              go_upto_region 22 with (fail)
              refine wp_forget (fun V => WA wk V Wb S d t False (100000 - q) vi vb xs' ∧ Ax wk V d t Wb vi vb xs' w6.heap.size ⟨op, page, off, na, Aa, nba, cba, bba⟩) ⟨HW6.out.up' ((Below.refl _ _).alloc (Nat.le_refl _) _), HA7.out⟩ ?_
              rintro w7 ⟨hw7, ha7⟩
              clear HW6 HW7 HA7 k0 k1 k2 k3 k4 lg6
              have HW7 := Lib.hid hw7
              have HA7 := Lib.hid ha7
              have c2 := ha7.1.c2
              have c4 := ha7.1.c4
              simp only at c2 c4
              have lg := ha7.lt
              clear hw7 ha7
              generalize w6.heap.size = ga at *
              have HXL := Lib.hid (show 0 < xs'.length by omega)
              obtain ⟨x, hqx⟩ : ∃ x, xs'[qk]? = some x := ⟨_, List.getElem?_eq_getElem hqk⟩
              have HQX := Lib.hid hqx
              have HXS := Lib.hid (List.mem_of_getElem? hqx)
              clear hqx
              by_cases h1 : off < 0
              · go_wp2
                go_roundw
                case rel => exact ⟨q + 1, t, xs', by omega, by go_num, HW7.out.less (by omega), HLE.out⟩
                case measure => simp [intOf]; omega
              by_cases h2 : (d.z : Int) < off
              · go_wp2
                go_roundw
                case rel => exact ⟨q + 1, t, xs', by omega, by go_num, HW7.out.less (by omega), HLE.out⟩
                case measure => simp [intOf]; omega
              obtain ⟨off, rfl⟩ := Int.eq_ofNat_of_zero_le (show 0 ≤ off by omega)
              have ow : IntKind.i64.wrap ((d.z : Int) - (off : Int)) = (d.z : Int) - (off : Int) := IntWalk.i64_in _ (by omega)
              by_cases h3 : (d.z : Int) - (off : Int) < (nba : Int)
              · go_wp2
                go_roundw
                case rel => exact ⟨q + 1, t, xs', by omega, by go_num, HW7.out.less (by omega), HLE.out⟩
                case measure => simp [intOf]; omega
              have o0 : decide ((off : Int) < 0) = false := decide_eq_false (by omega)
              have o1 : decide (d.z < off) = false := decide_eq_false (by omega)
              have o2 : decide ((d.z : Int) - (off : Int) < (nba : Int)) = false := decide_eq_false h3
              have hin : off + nba ≤ d.z := by omega
              clear h1 h2 h3
              go_upto_region 23 with (fail)
              obtain ⟨Ai, ci, hvi, _, hI⟩ := HW7.out.wl.formI
              obtain ⟨gi, rfl, _, hlg, hci⟩ := hI (by omega)
              have hcq := hci qk x HQX.out
              have q0 := HW7.out.wl.c0
              have q4 := HW7.out.wl.c4
              rw [hvi] at q4
              have lW := HW7.out.wl.ltW
              have hqkI : (qk : Int) < (xs'.length : Int) := by omega
              have HVI := Lib.hid hvi
              have HWR := Lib.hid (fun (W : World) (hbW : Below w7.heap.size w7 W) => vw_write_full (k := 100000 - (q + 1)) (cb := cba) ((HW7.out.vw.up hbW).less (by omega)) (CnX_at HW7.out.up HXS.out) (HI2.out.by_.inV (c := cba) (HW7.out.vw.up hbW)).1 (off := off) hin (HI2.out.by_.inV (c := cba) (HW7.out.vw.up hbW)).2)
              clear hI hci hvi
              refine wp_region_up_tail 12 (by kernel_rfl) (by kernel_rfl) (by kernel_rfl) ?_
              simp only [List.take_succ_cons, List.take_zero, List.drop_succ_cons, List.drop_zero]
              repeat (go_big_quiet_step (fail))
              refine wpQuiet_nil ?_
              rintro _ ⟨g9, rfl⟩
              go_wp2_with fail
              refine (HWR.out _ g9.h).mono ?_
              rintro e w9 ⟨t9, ⟨rfl, hv9⟩ | ⟨rfl, hv9⟩, hn9, hm9⟩
              · have HV9 := Lib.hid hv9
                have HL9 := Lib.hid ((HW7.out.up' g9.h).wl.nx hn9)
                have HM9 := Lib.hid (show t9.cm = xs'.length by rw [hm9.cm, HW7.out.cm])
                have hA9 := (HA7.out.up g9.h).nx hn9
                have HA9 := Lib.hid hA9
                have c2' := hA9.1.c2
                have c4' := hA9.1.c4
                simp only at c2' c4'
                have lg' := hA9.lt
                have HUP := Lib.hid HW7.out.up
                clear hv9 hn9 hm9 hA9 HWR hcq q0 q4 lW c2 c4 lg hlg HVI HA7 HW7 o0 o1 o2 ow
                go_upto_region 25 with (fail)
                obtain ⟨A5, c5, hvb, _, hB⟩ := HL9.out.formB
                obtain ⟨gb, rfl, _, lgb, hcb⟩ := hB (by omega)
                have hcx := hcb qk x HQX.out
                unfold Pe.v at hcx
                have hby := HL9.out.by_ x HXS.out
                rw [hby.len] at hcx
                have hcap := hby.cap
                have HBY := Lib.hid hby
                have q5 := HL9.out.c5
                rw [hvb] at q5
                have lW := HL9.out.ltW
                have HVB := Lib.hid hvb
                have HS4 := Lib.hid (HI2.out.by_.inV (c := cba) HV9.out).1
                clear hB hcb hvb hby
                by_cases hcz : off = x.c
                · obtain rfl : nba = 0 := by omega
                  refine wp_region_up_tail 12 (by kernel_rfl) (by kernel_rfl) (by kernel_rfl) ?_
                  simp only [List.take_succ_cons, List.take_zero, List.drop_succ_cons, List.drop_zero]
                  repeat (go_big_quiet_step (fail))
                  refine wpQuiet_nil ?_
                  rintro _ ⟨g3, rfl⟩
                  refine wpList_copy_by (off := off) rfl (.tmp 154) (.tmp 156) rfl rfl rfl (HBY.out.off (S := fun _ => False) hz1 (Off.of_below g3.h) (fun e => e)) hz1 (HS4.out.up g3.h) hin (by omega) (fun h => absurd h (by omega)) ?_
                  intro w5 hby5 ho5
                  have HW5 := Lib.hid (WA.write HUP.out HQX.out (HV9.out.up g3.h) (HL9.out.up g3.h) HM9.out hby5 ho5)
                  have HLEN := Lib.hid (show (xs'.set qk { x with b := setB x.b off bba }).length = xs.length by rw [List.length_set]; exact HLE.out)
                  clear hby5 ho5 q5 hcx lW lgb c2' c4' lg' HBY HS4
                  go_wp2
                  go_roundw
                  case rel => exact ⟨q + 1, t9, _, by omega, by go_num, HW5.out, HLEN.out⟩
                  case measure => simp [intOf]; omega
                · refine wp_region_up_tail 12 (by kernel_rfl) (by kernel_rfl) (by kernel_rfl) ?_
                  simp only [List.take_succ_cons, List.take_zero, List.drop_succ_cons, List.drop_zero]
                  repeat (go_big_quiet_step (fail))
                  refine wpQuiet_nil ?_
                  rintro _ ⟨g3, rfl⟩
                  refine wpList_copy_by (off := off) rfl (.tmp 154) (.tmp 156) rfl rfl rfl (HBY.out.off (S := fun _ => False) hz1 (Off.of_below g3.h) (fun e => e)) hz1 (HS4.out.up g3.h) hin rfl (fun _ => rfl) ?_
                  intro w5 hby5 ho5
                  have HW5 := Lib.hid (WA.write HUP.out HQX.out (HV9.out.up g3.h) (HL9.out.up g3.h) HM9.out hby5 ho5)
                  have HLEN := Lib.hid (show (xs'.set qk { x with b := setB x.b off bba }).length = xs.length by rw [List.length_set]; exact HLE.out)
                  clear hby5 ho5 q5 hcx lW lgb c2' c4' lg' HBY HS4
                  go_wp2
                  go_roundw
                  case rel => exact ⟨q + 1, t9, _, by omega, by go_num, HW5.out, HLEN.out⟩
                  case measure => simp [intOf]; omega
              · have HW9 := Lib.hid ((HW7.out.up' g9.h).nx hv9 hn9 hm9)
                clear hv9 hn9 hm9 HWR hcq q0 q4 lW c2 c4 lg hlg HVI HA7 HW7 o0 o1 o2 ow
                go_wp2
                go_roundw
                case rel => exact ⟨q + 1, t9, xs', by omega, by go_num, HW9.out, HLE.out⟩
                case measure => simp [intOf]; omega
          · obtain rfl : q = n2 := by omega
            have hqI : ¬ (q : Int) < (q : Int) := by omega
            go_wp2_with fail
            go_meet
            exact ⟨t, xs', HAT.out.less (by omega), HLE.out⟩
      case rest =>
      obtain ⟨t6, xs6, hw6, hl6⟩ := hcut
      have HW7 := Lib.hid hw6
      have HL7 := Lib.hid hl6
      clear hw6 hl6 HW6
      obtain ⟨qf, ff, lS⟩ := HW7.out.shCell
      have HW8 := Lib.hid (HW7.out.setFull (R' := True) (-1) (by omega) (fun _ => by omega))
      clear HW7
      have hxl6 : xs6.length ≤ 150 := by have := HL7.out; omega
      go_upto_region 29 with (fail)
      refine wp_forget (fun V => ∃ t, WA wk V Wb S d t True 90000 vi vb xs6) ⟨_, HW8.out⟩ ?_
      rintro w8 ⟨t8, hw8⟩
      have HW9 := Lib.hid hw8
      obtain ⟨Ai, ci, hvi, _⟩ := hw8.wl.formI
      clear hw8 HW8 qf ff lS
      subst hvi
      go_wp2
      go_loopw [20] (fun iv wr2 => ∃ (q : Nat) (t : PSt ShS), q ≤ xs6.length ∧ iv = .int .i64 (q : Nat) ∧ WA wk wr2 Wb S d t True (90000 - q) (.slice Ai xs6.length ci) vb xs6) (fun iv _ => xs6.length - (intOf iv).toNat)
      case atStart => exact ⟨0, t8, Nat.zero_le _, rfl, HW9.out⟩
      case round =>
        obtain ⟨q, t, hq, rfl, hat⟩ := hrel
        have HAT := Lib.hid hat
        have q4 := hat.wl.c4
        have lW := hat.wl.ltW
        clear HW9 hat
        by_cases hql : q < xs6.length
        · have hqI : (q : Int) < (xs6.length : Int) := by omega
          obtain ⟨x, hqx⟩ : ∃ x, xs6[q]? = some x := ⟨_, List.getElem?_eq_getElem hql⟩
          have HR := Lib.hid (wread_any (k := 90000 - (q + 1)) (HAT.out.less (by omega)) trivial hqx 0 (d.z : Int) (by omega) (by omega))
          clear hqx
          go_wp2_with fail
          refine HR.out.mono ?_
          rintro e w6 ⟨rfl, t6, hw6⟩
          have HW6 := Lib.hid hw6
          clear hw6 HR HAT q4 lW
          go_wp2
          go_roundw
          case rel => exact ⟨q + 1, t6, by omega, by go_num, HW6.out⟩
          case measure => simp [intOf]; omega
        · obtain rfl : q = xs6.length := by omega
          have hqI : ¬ (xs6.length : Int) < (xs6.length : Int) := by omega
          have HH := Lib.hid (held_any HAT.out.vw.at_)
          have hu : cntF qUsed t.F d.n ≤ d.n := cntF_le _ _ _
          generalize cntF qUsed t.F d.n = u at *
          have HBL := Lib.hid HAT.out.vw.bel
          clear HAT
          go_wp2_with fail
          refine HH.out.mono ?_
          rintro e w12 ⟨rfl, hb12⟩
          have HBF := Lib.hid (bel2 HB0.out (HBL.out.trans (hb12.mono HBL.out.size)))
          clear hb12 HH q4 lW
          go_wp2
          go_ret
          exact ⟨by first | (simp; done) | (simp; omega), HBF.out⟩
end
end Go.Proofs.Ytmipngefpedfpaa
