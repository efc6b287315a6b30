/- BlobsCuts, walked. -/
import Derived.Test.YtlmgihnnphmmhaaVaZ
namespace Go.Proofs.Ytlmgihnnphmmhaa
open Go.RowKit
set_option linter.unusedVariables false
set_option linter.unusedSimpArgs false

section
variable [Inhabited KSt] {w0 w w' : World} {Wb D P T M : Nat} {O : Nat → Prop} {vA vL : Value} {x : WoS}
/-- The disk alone has changed. -/
theorem WoM.disk (h : WoM w0 w Wb D P T M O vA vL x) {d : DkS} (hd : DkAt w0.heap.size w' D d O) (ho : Off O w w') (hS : d.S = x.s.d.S) (hz : d.z = x.s.d.z) : WoM w0 w' Wb D P T M O vA vL ⟨{ x.s with d := d }, x.ad, x.bl⟩ :=
  h.putted (s' := { x.s with d := d }) rfl (h.st.disk hd ho hS hz) (fun g => .inl) (ho.mono fun g e => .inr (.inr e))
end
theorem putNil_any [Inhabited KSt] {w0 w : World} {Wb D P T M : Nat} {O : Nat → Prop} {vA vL : Value} {x : WoS} (h : WoM w0 w Wb D P T M O vA vL x) (hof : x.s.d.off = true) (he : Em x) :
    ∃ er, (er = 8 ∨ (er = 7 ∧ 0 < x.ad.length)) ∧ Calls Try.prog 13 #[.pointer (some ⟨P, 0, none⟩), .slice none 0 0] w (PLong w er) := by
  have hb : SBy w none 0 [] := ⟨rfl, fun h => absurd h (Nat.lt_irrefl 0)⟩
  have hs := h.st.ok
  have h1 := hs.ok.h1
  have h3 := hs.ok.h3
  have hn := nil_n
  have hle : secs x.s.c.z (putF []).length ≤ x.s.c.seg := by
    have h6 : secs x.s.c.z (putF []).length ≤ 1 := secs_le (by omega) (by omega)
    omega
  rcases room_cases x.s (secs x.s.c.z (putF []).length) with h4 | ⟨k, u, h4⟩
  · refine ⟨7, .inr ⟨rfl, ?_⟩, stPutSpace_any h.st hb (Nat.le_refl _) (by omega) hle h4⟩
    rcases Nat.eq_zero_or_pos x.ad.length with h5 | h5
    · exact absurd h4 (he.room hs (List.length_eq_zero_iff.1 h5) _)
    · exact h5
  · exact ⟨8, .inl rfl, stPutOff_any h.st hb (Nat.le_refl _) (by omega) hle h4 hof⟩
set_option maxRecDepth 100000 in
set_option maxHeartbeats 16000000 in
theorem cuts_yes (w : World) {c : Cfg} (hok : c.Ok) (hfs : c.sectors ≤ 3000) (hfz : c.z ≤ 512) {A : Option Addr} {n cp : Nat} {b : Nat → BArg} (hl : SLs w A n b) (hn : n ≤ 1048576) (hs : lenSum b n ≤ 1099511627776) {A2 : Option Addr} {n2 cp2 : Nat} {b2 : Nat → BArg} (hl2 : SLs w A2 n2 b2) (hn2 : n2 ≤ 1048576) (hs2 : lenSum b2 n2 ≤ 1099511627776) (sl : Bool) {Ak : Option Addr} {nk ck : Nat} {Fl : List Bool} (hk : SBl w Ak nk Fl) :
    Calls Try.prog 8 #[c.val, .slice A n cp, .slice A2 n2 cp2, .bool sl, .slice Ak nk ck] w fun e w' => e = .returned (.bool true) ∧ Below w.heap.size w w' := by
  have HK : Hid (∀ w', Calls Try.prog 10 #[] w' fun e w'' => e = .returned (.bool true) ∧ Below w'.heap.size w' w'') := fun w' => known9_any w'
  have HF : Hid (∀ w', Calls Try.prog 11 #[c.val] w' fun e w'' => e = .returned (.bool true) ∧ Below w'.heap.size w' w'') := fun w' => fits_true w' hok hfs hfz
  have HBG : Hid (∀ w', Calls Try.prog 12 #[c.val] w' (BgPost (fun _ => false) c w')) := fun w' => begun_any w' hok
  have HFW : Hid (∀ w', Below w.heap.size w w' → Calls Try.prog 16 #[.slice A n cp] w' fun e w'' => e = .returned (.bool (fewB b n)) ∧ Below w'.heap.size w' w'') := fun w' hb => (few_any w' (hl.up hb) hn hs).mono fun e w'' ⟨h1, h2⟩ => by rw [h2]; exact ⟨h1, Below.refl _ _⟩
  have HFW2 : Hid (∀ w', Below w.heap.size w w' → Calls Try.prog 16 #[.slice A2 n2 cp2] w' fun e w'' => e = .returned (.bool (fewB b2 n2)) ∧ Below w'.heap.size w' w'') := fun w' hb => (few_any w' (hl2.up hb) hn2 hs2).mono fun e w'' ⟨h1, h2⟩ => by rw [h2]; exact ⟨h1, Below.refl _ _⟩
  have HL := Lib.hid hl
  have HL2 := Lib.hid hl2
  have HFK := Lib.hid hk
  have HMD := Lib.hid (BoxC.made w c)
  have HB : Hid (Below w.heap.size w (w.alloc (.cells c.cells 23))) := (Below.refl _ _).alloc (Nat.le_refl _) _
  clear hok hl hs hl2 hs2 hk
  unfold Cfg.val at HF HBG ⊢
  unfold Cfg.cells at HMD HB
  go_enter Try.func8, Try.ntmps8
  go_upto_region 1 with (fail)
  refine wp_forget (fun W => BoxC W w.heap.size c ∧ Below w.heap.size w W ∧ w.heap.size < W.heap.size) ⟨HMD.out, HB.out, by simp⟩ ?_
  clear HMD HB
  rintro W ⟨⟨q0, q1, q2, q3, q4, q5, q6, q7, q8⟩, hbW, lW⟩
  have HBW := Lib.hid hbW
  clear hbW
  refine wp_upW (W := W) fun g => ?_
  go_wp2_with fail
  refine calls_upW (HK.out _) fun g => ?_
  go_wp2_with fail
  refine calls_upW (HF.out _) fun g => ?_
  go_wp2_with fail
  refine calls_upW (HFW.out _ (below_upto HBW.out g.h (Nat.le_refl _))) fun g => ?_
  clear HK HF HFW
  cases hfw : fewB b n with
  | false =>
    have HG : Hid (Below w.heap.size w g.world) := below_upto HBW.out g.h (Nat.le_refl _)
    go_wp2
    go_ret
    exact ⟨rfl, HG.out⟩
  | true =>
    have hfw2 : n ≤ 80 ∧ lenSum b n ≤ 32768 := of_decide_eq_true hfw
    obtain ⟨hn80, hsum⟩ := hfw2
    have HLE : Hid (∀ i, i < n → (b i).n ≤ 65536) := fun i hi => by have := le_lenSum b hi; omega
    clear hfw hsum hn
    go_wp2_with fail
    refine calls_upW (HFW2.out _ (below_upto HBW.out g.h (Nat.le_refl _))) fun g => ?_
    clear HFW2
    have HG : Hid (Below w.heap.size w g.world) := below_upto HBW.out g.h (Nat.le_refl _)
    cases hfw : fewB b2 n2 with
    | false =>
      go_wp2
      go_ret
      exact ⟨rfl, HG.out⟩
    | true =>
      have hfw2 : n2 ≤ 80 ∧ lenSum b2 n2 ≤ 32768 := of_decide_eq_true hfw
      obtain ⟨hn280, hsum⟩ := hfw2
      have HLE2 : Hid (∀ i, i < n2 → (b2 i).n ≤ 65536) := fun i hi => by have := le_lenSum b2 hi; omega
      clear hfw hsum hn2
      by_cases h2k : 2000 < nk
      · have i1 : (nk : Int) > 2000 := by omega
        go_wp2
        go_ret
        exact ⟨rfl, HG.out⟩
      · have i1 : ¬ (nk : Int) > 2000 := by omega
        have i2 : ¬ (2000 : Int) < (nk : Int) := by omega
        go_wp2_with fail
        refine (HBG.out _).mono ?_
        rintro _ w1 ⟨Wb, rfl, hwo⟩
        have HP0 := Lib.hid (PutsX.zero hwo)
        have HB0 := HG
        obtain ⟨V, hV⟩ : ∃ V, V = g.world := ⟨_, rfl⟩
        rw [← hV] at HP0 HB0
        clear hwo q0 q1 q2 q3 q4 q5 q6 q7 q8 HBW HBG HG hV g i1 i2 lW
        go_wp2_with fail
        go_loopw [12] (fun i wr => ∃ j : Nat, j ≤ n ∧ i = .int .i64 (j : Nat) ∧ PutsX V Wb c 0 j wr) (fun i _ => n - (intOf i).toNat)
        case atStart => exact ⟨0, Nat.zero_le _, rfl, HP0.out⟩
        case round =>
          obtain ⟨j, hj, rfl, hp⟩ := hrel
          clear HP0
          by_cases hlt : j < n
          · obtain ⟨G, o, rfl, hG, hc⟩ := HL.out (by omega)
            have hbl := hp.bel
            have c0 := (hbl.cell (p := ⟨G, o + j, none⟩) (Nat.lt_of_lt_of_le hG HB0.out.size)).trans ((HB0.out.cell (p := ⟨G, o + j, none⟩) hG).trans (hc j hlt).1)
            have HPU : Hid (Calls Try.prog 17 #[.pointer (some ⟨Wb, 0, none⟩), (b j).v] wr fun e w' => e = .returned (.bool true) ∧ PutsX V Wb c 0 (j + 1) w') := hp.put ((hc j hlt).2.up HB0.out) (HLE.out j hlt) hfs hfz (by omega)
            unfold BArg.v at c0 HPU
            have i1 : (j : Int) < (n : Int) := by omega
            clear hp hc hbl
            go_wp2_with fail
            refine HPU.out.mono ?_
            rintro _ w2 ⟨rfl, hp2⟩
            have HP2 := Lib.hid hp2
            clear hp2
            go_wp2
            go_roundw
            case rel => exact ⟨j + 1, by omega, by go_num, HP2.out⟩
            case measure => simp [intOf]; omega
          · have hje : ¬ (j : Int) < (n : Int) := by omega
            obtain ⟨x, ⟨D, P, T, M, O, vA, vL, hm, hi⟩, hxc, hpd, had, _, hkn, hem⟩ := hp
            have HM := Lib.hid hm
            have HI := Lib.hid hi
            have HXC := Lib.hid hxc
            have HEM := Lib.hid hem
            have HAD := Lib.hid had
            have hFL : Calls Try.prog 31 #[.pointer (some ⟨P, 0, none⟩)] wr _ := stFlush_any hm.st hi.on
            have HFL := Lib.hid hFL
            have c10 := hm.c10
            have lWb := hm.lts.1
            clear hm hi hxc hpd had hkn hem HL HLE hFL
            go_wp2_with fail
            refine HFL.out.mono ?_
            rintro _ w3 ⟨rfl, hst, hoff⟩
            have hm1 := HM.out.putted (s' := { x.s with d := x.s.d.settle fun _ => true }) rfl hst (fun g => .inl) (hoff.mono fun g e => .inr (.inr e))
            have hset := Settled.flush x.s
            have HM1 := Lib.hid hm1
            have HI1 := Lib.hid (hset.inv HI.out)
            have HKN1 := Lib.hid (hset.kept HI.out)
            have HEM1 := Lib.hid (hset.emp HEM.out)
            have c101 := hm1.c10
            have lWb1 := hm1.lts.1
            clear hm1 hst hoff hset HFL HEM HM HI c10 lWb
            have HDN : Hid (WoM V w3 Wb D P T M O vA vL ⟨{ x.s with d := x.s.d.settle fun _ => true }, x.ad, x.bl⟩ ∧ x.ad.length ≤ n) := ⟨HM1.out, Nat.le_trans HAD.out hj⟩
            cases sl with
            | false =>
              go_upto_region 18 with (fail)
              refine wp_forget (fun W => ∃ x2, WoM V W Wb D P T M O vA vL x2 ∧ WoInv (fun _ => false) x2 ∧ KeptN x2 x2.ad.length ∧ Em x2 ∧ x2.s.c = c ∧ x2.s.d.pend = [] ∧ x2.ad.length ≤ n) ⟨_, HM1.out, HI1.out, HKN1.out, HEM1.out, HXC.out, rfl, HDN.out.2⟩ ?_
              clear HM1 HI1 HKN1 HEM1 HXC HDN c101 lWb1 HAD
              rintro W2 ⟨x2, hm2, hi2, hkn2, hem2, hxc2, hpd2, had2⟩
              have HM2 := Lib.hid hm2
              have HI2 := Lib.hid hi2
              have HEM2 := Lib.hid hem2
              obtain ⟨Aa, ca, hva⟩ : ∃ Aa ca, vA = .slice Aa x2.ad.length ca := by
                rcases hm2.rA.2 with ⟨hh, h0⟩ | ⟨g, cap, cur, hh, _⟩
                · exact ⟨_, _, by rw [hh, h0]⟩
                · exact ⟨_, _, hh⟩
              have c11 : W2.cell? ⟨Wb, 11, none⟩ = some (.slice Aa x2.ad.length ca) := by rw [hm2.c11, hva]
              have lW2 := hm2.lts.1
              obtain ⟨m, hme⟩ : ∃ m, x2.ad.length = m := ⟨_, rfl⟩
              have HP2 : Hid (PutsX V Wb c m (n + 0) W2) := ⟨x2, ⟨D, P, T, M, O, vA, vL, hm2, hi2⟩, hxc2, by rw [hpd2]; simp, had2, by omega, by rw [← hme]; exact hkn2, hem2⟩
              rw [hme] at c11 had2
              clear hm2 hi2 hem2 hkn2 hxc2 hpd2 hva hme HM2 HI2 HEM2
              go_wp2_with fail
              clear c11 lW2
              go_loopw [15] (fun i wr => ∃ j : Nat, j ≤ n2 ∧ i = .int .i64 (j : Nat) ∧ PutsX V Wb c m (n + j) wr) (fun i _ => n2 - (intOf i).toNat)
              case atStart => exact ⟨0, Nat.zero_le _, rfl, HP2.out⟩
              case round =>
                obtain ⟨j2, hj2, rfl, hp⟩ := hrel
                clear HP2
                by_cases hlt2 : j2 < n2
                · obtain ⟨G, o, rfl, hG, hc⟩ := HL2.out (by omega)
                  have hbl := hp.bel
                  have c0 := (hbl.cell (p := ⟨G, o + j2, none⟩) (Nat.lt_of_lt_of_le hG HB0.out.size)).trans ((HB0.out.cell (p := ⟨G, o + j2, none⟩) hG).trans (hc j2 hlt2).1)
                  have HPU : Hid (Calls Try.prog 17 #[.pointer (some ⟨Wb, 0, none⟩), (b2 j2).v] wr fun e w' => e = .returned (.bool true) ∧ PutsX V Wb c m (n + j2 + 1) w') := hp.put ((hc j2 hlt2).2.up HB0.out) (HLE2.out j2 hlt2) hfs hfz (by omega)
                  unfold BArg.v at c0 HPU
                  have i1 : (j2 : Int) < (n2 : Int) := by omega
                  clear hp hc hbl
                  go_wp2_with fail
                  refine HPU.out.mono ?_
                  rintro _ w2 ⟨rfl, hp2⟩
                  have HP2 := Lib.hid hp2
                  clear hp2
                  go_wp2
                  go_roundw
                  case rel => exact ⟨j2 + 1, by omega, by go_num, HP2.out⟩
                  case measure => simp [intOf]; omega
                · have hje2 : ¬ (j2 : Int) < (n2 : Int) := by omega
                  clear HL2 HLE2
                  obtain ⟨x3, ⟨D, P, T, M, O, vA, vL, hm, hi⟩, hxc, hpd, had, hmn, hkn, hem⟩ := hp
                  have HM := Lib.hid hm
                  have HI := Lib.hid hi
                  have HEM := Lib.hid hem
                  have HKN := Lib.hid hkn
                  have HBR : Hid (Below w.heap.size w wr) := below_upto HB0.out hm.bel (Nat.le_refl _)
                  have HCT := Lib.hid (dkCut_any hm.st.dk (A := Ak) (n := nk) (c := ck) (F := Fl) ((HFK.out.up HB0.out).up hm.bel) (fun h0 g o e e2 => by
                    obtain ⟨b, o', e', hb, _⟩ := HFK.out.2 h0
                    rw [e] at e'
                    injection e' with e'
                    injection e' with e1 e3
                    subst e1
                    have := (hm.st.lts.2.2.2 _ e2).1
                    have := HB0.out.size
                    omega))
                  have c9 := hm.c9
                  have lW3 := hm.lts.1
                  clear hm hi hem hkn hxc hpd hje2
                  go_wp2_with fail
                  refine HCT.out.mono ?_
                  rintro _ w4 ⟨rfl, hd, ho⟩
                  have hm4 := HM.out.disk hd ho rfl rfl
                  obtain ⟨er, her, hpn⟩ := putNil_any hm4 rfl (show Em _ from fun h0 => HEM.out h0)
                  have HPN := Lib.hid hpn
                  have HM4 := Lib.hid hm4
                  have c104 := hm4.c10
                  have lW4 := hm4.lts.1
                  unfold PLong addrV at HPN
                  clear hd ho hm4 hpn HCT HM HEM c9 lW3
                  go_wp2_with fail
                  refine HPN.out.mono ?_
                  rintro _ w5 ⟨rfl, hb5⟩
                  have HM5 := Lib.hid (HM4.out.up hb5)
                  clear HPN hb5 c104 lW4 HM4
                  go_upto_region 26 with (fail)
                  refine wp_forget (fun W => WoM V W Wb D P T M O vA vL ⟨{ x3.s with d := DkS.settle (fun i => Fl.getD i false) ⟨x3.s.d.S, x3.s.d.z, x3.s.d.kept, x3.s.d.pend, true⟩ }, x3.ad, x3.bl⟩) (HM5.out.up ((Below.refl _ _).alloc (Nat.le_refl _) _)) ?_
                  clear HM5
                  rintro W6 hm6
                  have HM6 := Lib.hid hm6
                  have lW6 := hm6.lts.1
                  have HBR6 : Hid (Below w.heap.size w W6) := below_upto HB0.out hm6.bel (Nat.le_refl _)
                  rcases her with rfl | ⟨rfl, hpos⟩
                  rotate_left
                  · obtain ⟨Aa, ca, hva⟩ : ∃ Aa ca, vA = .slice Aa x3.ad.length ca := by
                      rcases hm6.rA.2 with ⟨hh, h0⟩ | ⟨g, cap, cur, hh, _⟩
                      · exact ⟨_, _, by rw [hh, h0]⟩
                      · exact ⟨_, _, hh⟩
                    have c11 : W6.cell? ⟨Wb, 11, none⟩ = some (.slice Aa x3.ad.length ca) := by rw [hm6.c11, hva]
                    have hpi : (x3.ad.length : Int) > 0 := by omega
                    clear hm6 hva hpos HM6 HKN HI
                    go_wp2
                    go_ret
                    exact ⟨rfl, HBR6.out⟩
                  · have c9 := hm6.c9
                    have HON := Lib.hid (dkOn_any hm6.st.dk)
                    clear hm6
                    go_wp2_with fail
                    refine HON.out.mono ?_
                    rintro _ w7 ⟨rfl, hd, ho⟩
                    have hm7 := HM6.out.disk hd ho rfl rfl
                    obtain ⟨x7, hm7, hft, hof7, hln7, hx200⟩ : ∃ x7, WoM V w7 Wb D P T M O vA vL x7 ∧ FinT x7 m ∧ x7.s.d.off = false ∧ x7.ad.length = x7.bl.length ∧ x7.ad.length ≤ 200 := ⟨_, hm7, HKN.out.fin HI.out ⟨HM6.out.st.ok.ok, HM6.out.st.ok.dS, HM6.out.st.ok.dz, HM6.out.st.ok.tn, HM6.out.st.ok.opn, HM6.out.st.ok.one, HM6.out.st.ok.usl, HM6.out.st.ok.us0, HM6.out.st.ok.uk⟩ (fun b hb => (HM6.out.bin b hb).2) (fun i => Fl.getD i false), rfl, HI.out.len, by show x3.ad.length ≤ 200; omega⟩
                    have HM := Lib.hid hm7
                    have HT := Lib.hid hft
                    have HOF := Lib.hid hof7
                    have HLN := Lib.hid hln7
                    clear hd ho HM6 HON HKN HI hm7 hft hof7 hln7 c9 lW6 HBR6 HBR
                    go_wp2_with fail
                    go_loopw [18] (fun i wr => ∃ j : Nat, j ≤ x7.ad.length ∧ i = .int .i64 (j : Nat) ∧ WoM V wr Wb D P T M O vA vL x7) (fun i _ => x7.ad.length - (intOf i).toNat)
                    case atStart => exact ⟨0, Nat.zero_le _, rfl, HM.out⟩
                    case round =>
                      obtain ⟨j3, hj3, rfl, hmr⟩ := hrel
                      clear HM
                      have HM := Lib.hid hmr
                      have lW := hmr.lts.1
                      have HBR7 : Hid (Below w.heap.size w wr) := below_upto HB0.out hmr.bel (Nat.le_refl _)
                      obtain ⟨Aa, ca, hva⟩ : ∃ Aa ca, vA = .slice Aa x7.ad.length ca := by
                        rcases hmr.rA.2 with ⟨hh, h0⟩ | ⟨g, cap, cur, hh, _⟩
                        · exact ⟨_, _, by rw [hh, h0]⟩
                        · exact ⟨_, _, hh⟩
                      have c11 : wr.cell? ⟨Wb, 11, none⟩ = some (.slice Aa x7.ad.length ca) := by rw [hmr.c11, hva]
                      have c10 := hmr.c10
                      by_cases hlt3 : j3 < x7.ad.length
                      · obtain ⟨⟨a, N⟩, hp⟩ : ∃ p, x7.ad[j3]? = some p := ⟨_, List.getElem?_eq_getElem hlt3⟩
                        have hlt4 : j3 < x7.bl.length := by rw [← HLN.out]; exact hlt3
                        obtain ⟨b, hbj⟩ : ∃ b, x7.bl[j3]? = some b := ⟨_, List.getElem?_eq_getElem hlt4⟩
                        obtain ⟨⟨k, hrn⟩, hget, her⟩ := HT.out j3 a N b hp hbj
                        obtain ⟨r, hr⟩ : ∃ r, r = x7.s.d.getB a N := ⟨_, rfl⟩
                        rw [← hr] at hget her
                        obtain ⟨G, cap, hG, hcap, _⟩ := World.ownsRow.form hmr.rA (show 0 < x7.ad.length by omega)
                        have k0 := World.ownsRow.cells hmr.rA (g := G) (by rw [hG]; rfl) (j3 * 2) _ (adCells_at _ j3 _ hp).1
                        have k1 := World.ownsRow.cells hmr.rA (g := G) (by rw [hG]; rfl) (j3 * 2 + 1) _ (adCells_at _ j3 _ hp).2
                        have lG := (hmr.lts.2.1 G (by rw [hG]; rfl)).2
                        rw [addr_plain'] at k0 k1
                        rw [hva] at hG
                        injection hG with e1 e2 e3
                        subst e1
                        have HRN := Lib.hid hrn
                        have HGT := Lib.hid hr
                        have HVA := Lib.hid hva
                        have HBJ := Lib.hid hbj
                        have HGE := Lib.hid hget
                        have HER := Lib.hid her
                        have u0 : (j3 : Int) < (x7.ad.length : Int) := by omega
                        clear hmr hva hp hbj hrn hget hcap e2 e3 hr her
                        go_upto_region 32 with (fail)
                        refine wp_region_up_tail 11 (by kernel_rfl) (by kernel_rfl) (by kernel_rfl) ?_
                        simp only [List.take_succ_cons, List.take_zero, List.drop_succ_cons, List.drop_zero]
                        repeat (go_big_quiet_step (fail))
                        refine wpQuiet_nil ?_
                        rintro _ ⟨g, rfl⟩
                        have HMG : Hid (WoM V g.world Wb D P T M O vA vL x7) := HM.out.up g.h
                        have HGG : Hid (Calls Try.prog 14 #[.pointer (some ⟨P, 0, none⟩), addrV a N] g.world (GtPost V.heap.size g.world P D T M O x7.s r)) := by rw [HGT.out]; exact stGet_any HMG.out.st HRN.out HOF.out
                        unfold addrV at HGG
                        go_wp2_with fail
                        refine HGG.out.mono ?_
                        rintro _ w8 ⟨A', n', c', rfl, ⟨w9, hF, _⟩, hst, hoff⟩
                        have hm2 := HMG.out.read hst hoff
                        have HM2 := Lib.hid hm2
                        have lW2 := hm2.lts.1
                        clear hst hoff HGG HMG c10 c11 k0 k1 lG HRN HGT
                        by_cases hjm : j3 < m
                        · have hrb := HGE.out hjm
                          subst hrb
                          have hF' : FrB w9 w8 (.slice A' n' c') b.L := hF
                          have HS2 : Hid (SBy w8 A' n' b.L) := hF'.sby
                          obtain ⟨AL, cL, hvl⟩ : ∃ AL cL, vL = .slice AL x7.bl.length cL := by
                            rcases hm2.rL.2 with ⟨hh, h0⟩ | ⟨g, cap, cur, hh, _⟩
                            · exact ⟨_, _, by rw [hh, h0]⟩
                            · exact ⟨_, _, hh⟩
                          have c12 : w8.cell? ⟨Wb, 12, none⟩ = some (.slice AL x7.bl.length cL) := by rw [hm2.c12, hvl]
                          obtain ⟨G2, cap, hG, hcap, _⟩ := World.ownsRow.form hm2.rL (show 0 < x7.bl.length by omega)
                          have k2 := World.ownsRow.cells hm2.rL (g := G2) (by rw [hG]; rfl) (j3 * 1) b.v (by rw [Nat.mul_one, List.getElem?_map, HBJ.out]; rfl)
                          have lG := (hm2.lts.2.2 G2 (by rw [hG]; rfl)).2
                          rw [addr_plain', Nat.mul_one] at k2
                          rw [hvl] at hG
                          injection hG with e1 e2 e3
                          subst e1
                          have hbi := (hm2.bin b (List.mem_of_getElem? HBJ.out)).1
                          have HCV1 : Hid (∀ g : Up w8, (convert 28 9 (.slice A' n' c')).run Try.prog g.world = .ok (.string (strB b.L)) g.world) := fun g => (HS2.out.up g.h).str c'
                          have HCV2 : Hid (∀ g : Up w8, (convert 28 9 (.slice b.A b.n b.c)).run Try.prog g.world = .ok (.string (strB b.L)) g.world) := fun g => ((hbi.1.up hm2.bel).up g.h).str b.c
                          have u1 : (j3 : Int) < (x7.bl.length : Int) := by omega
                          have u2 : (j3 : Int) < (m : Int) := by omega
                          have HBI := Lib.hid hbi
                          unfold BArg.v at k2
                          clear hm2 hvl hcap e2 e3 hbi hF hF'
                          simp only
                          go_upto_region 33 with (fail)
                          have cv1 := HCV1.out
                          have cv2 := HCV2.out
                          refine wp_region_up (by kernel_rfl) (by kernel_rfl) ?_
                          repeat (go_big_quiet_step (fail))
                          refine wpQuiet_nil ?_
                          rintro _ ⟨g, rfl⟩
                          have HMF : Hid (WoM V g.world Wb D P T M O vA vL x7) := HM2.out.up g.h
                          clear cv1 cv2 HCV1 HCV2
                          go_wp2
                          go_roundw
                          case rel => exact ⟨j3 + 1, by omega, by go_num, HMF.out⟩
                          case measure => simp [intOf]; omega
                        · have u2 : ¬ (j3 : Int) < (m : Int) := by omega
                          obtain ⟨rL, re⟩ := r
                          have her := HER.out
                          simp only at her ⊢
                          clear hm2 hF HER HGE
                          rcases her with rfl | rfl
                          all_goals
                            go_upto_region 33 with (fail)
                            refine wp_region_up (by kernel_rfl) (by kernel_rfl) ?_
                            repeat (go_big_quiet_step (fail))
                            refine wpQuiet_nil ?_
                            rintro _ ⟨g, rfl⟩
                            have HMF : Hid (WoM V g.world Wb D P T M O vA vL x7) := HM2.out.up g.h
                            go_wp2
                            go_roundw
                            case rel => exact ⟨j3 + 1, by omega, by go_num, HMF.out⟩
                            case measure => simp [intOf]; omega
                      · have hje3 : ¬ (j3 : Int) < (x7.ad.length : Int) := by omega
                        clear hmr hva
                        go_wp2
                        go_ret
                        exact ⟨rfl, HBR7.out⟩
            | true =>
              have HSL : Hid (Calls Try.prog 32 #[.pointer (some ⟨P, 0, none⟩)] w3 _) := stSeal_any HM1.out.st HI1.out.on
              go_wp2_with fail
              refine HSL.out.mono ?_
              rintro _ w4 ⟨rfl, hst, hoff⟩
              have hso := HM1.out.st.ok
              have hset := Settled.shut hso
              have hm4 := HM1.out.putted (s' := StS.fill { x.s with d := (x.s.d.settle fun _ => true).settle fun _ => true }) rfl hst (fun g => .inl) hoff
              have HM4 := Lib.hid hm4
              have HI4 := Lib.hid (hset.inv HI1.out)
              have HKN4 := Lib.hid (hset.kept HI1.out)
              have HEM4 := Lib.hid (hset.emp HEM1.out)
              have hop : (StS.fill { x.s with d := (x.s.d.settle fun _ => true).settle fun _ => true }).t.cnt 1 (StS.fill { x.s with d := (x.s.d.settle fun _ => true).settle fun _ => true }).t.n = 0 := shut_open ⟨hso.ok, hso.dS, hso.dz, hso.tn, hso.opn, hso.one, hso.usl, hso.us0, hso.uk⟩
              have c104 := hm4.c10
              have lWb4 := hm4.lts.1
              have HTB : Hid (∀ g : Up w4, Calls Try.prog 18 #[.pointer (some ⟨P, 0, none⟩)] g.world fun e w' => e = .returned (.pointer (some ⟨T, 0, none⟩)) ∧ Below g.world.heap.size g.world w') := fun g => (stTable_any (HM4.out.st.up g.h)).mono fun e w' ⟨h1, h2⟩ => by rw [h2]; exact ⟨h1, Below.refl _ _⟩
              have HCT : Hid (∀ g : Up w4, Calls Try.prog 22 #[.pointer (some ⟨T, 0, none⟩), .int .i64 1] g.world fun e w' => e = .returned (.int .i64 0) ∧ Below g.world.heap.size g.world w') := fun g => (tbCount_any (HM4.out.st.up g.h).tb 1).mono fun e w' ⟨h1, h2⟩ => ⟨by rw [h1, hop]; rfl, h2⟩
              clear hm4 hst hoff hset hop hso HSL HM1 HI1 HKN1 HEM1 c101 lWb1
              go_upto_region 16 with (fail)
              refine wp_upW (W := w4) fun g => ?_
              go_wp2_with fail
              refine calls_upW (HTB.out _) fun g => ?_
              go_wp2_with fail
              refine calls_upW (HCT.out _) fun g => ?_
              go_upto_region 18 with (fail)
              refine wp_forget (fun W => ∃ x2, WoM V W Wb D P T M O vA vL x2 ∧ WoInv (fun _ => false) x2 ∧ KeptN x2 x2.ad.length ∧ Em x2 ∧ x2.s.c = c ∧ x2.s.d.pend = [] ∧ x2.ad.length ≤ n) ⟨_, HM4.out.up g.h, HI4.out, HKN4.out, HEM4.out, HXC.out, rfl, HDN.out.2⟩ ?_
              clear HM4 HI4 HKN4 HEM4 HXC HDN c104 lWb4 HAD HTB HCT g
              rintro W2 ⟨x2, hm2, hi2, hkn2, hem2, hxc2, hpd2, had2⟩
              have HM2 := Lib.hid hm2
              have HI2 := Lib.hid hi2
              have HEM2 := Lib.hid hem2
              obtain ⟨Aa, ca, hva⟩ : ∃ Aa ca, vA = .slice Aa x2.ad.length ca := by
                rcases hm2.rA.2 with ⟨hh, h0⟩ | ⟨g, cap, cur, hh, _⟩
                · exact ⟨_, _, by rw [hh, h0]⟩
                · exact ⟨_, _, hh⟩
              have c11 : W2.cell? ⟨Wb, 11, none⟩ = some (.slice Aa x2.ad.length ca) := by rw [hm2.c11, hva]
              have lW2 := hm2.lts.1
              obtain ⟨m, hme⟩ : ∃ m, x2.ad.length = m := ⟨_, rfl⟩
              have HP2 : Hid (PutsX V Wb c m (n + 0) W2) := ⟨x2, ⟨D, P, T, M, O, vA, vL, hm2, hi2⟩, hxc2, by rw [hpd2]; simp, had2, by omega, by rw [← hme]; exact hkn2, hem2⟩
              rw [hme] at c11 had2
              clear hm2 hi2 hem2 hkn2 hxc2 hpd2 hva hme HM2 HI2 HEM2
              go_wp2_with fail
              clear c11 lW2
              go_loopw [15] (fun i wr => ∃ j : Nat, j ≤ n2 ∧ i = .int .i64 (j : Nat) ∧ PutsX V Wb c m (n + j) wr) (fun i _ => n2 - (intOf i).toNat)
              case atStart => exact ⟨0, Nat.zero_le _, rfl, HP2.out⟩
              case round =>
                obtain ⟨j2, hj2, rfl, hp⟩ := hrel
                clear HP2
                by_cases hlt2 : j2 < n2
                · obtain ⟨G, o, rfl, hG, hc⟩ := HL2.out (by omega)
                  have hbl := hp.bel
                  have c0 := (hbl.cell (p := ⟨G, o + j2, none⟩) (Nat.lt_of_lt_of_le hG HB0.out.size)).trans ((HB0.out.cell (p := ⟨G, o + j2, none⟩) hG).trans (hc j2 hlt2).1)
                  have HPU : Hid (Calls Try.prog 17 #[.pointer (some ⟨Wb, 0, none⟩), (b2 j2).v] wr fun e w' => e = .returned (.bool true) ∧ PutsX V Wb c m (n + j2 + 1) w') := hp.put ((hc j2 hlt2).2.up HB0.out) (HLE2.out j2 hlt2) hfs hfz (by omega)
                  unfold BArg.v at c0 HPU
                  have i1 : (j2 : Int) < (n2 : Int) := by omega
                  clear hp hc hbl
                  go_wp2_with fail
                  refine HPU.out.mono ?_
                  rintro _ w2 ⟨rfl, hp2⟩
                  have HP2 := Lib.hid hp2
                  clear hp2
                  go_wp2
                  go_roundw
                  case rel => exact ⟨j2 + 1, by omega, by go_num, HP2.out⟩
                  case measure => simp [intOf]; omega
                · have hje2 : ¬ (j2 : Int) < (n2 : Int) := by omega
                  clear HL2 HLE2
                  obtain ⟨x3, ⟨D, P, T, M, O, vA, vL, hm, hi⟩, hxc, hpd, had, hmn, hkn, hem⟩ := hp
                  have HM := Lib.hid hm
                  have HI := Lib.hid hi
                  have HEM := Lib.hid hem
                  have HKN := Lib.hid hkn
                  have HBR : Hid (Below w.heap.size w wr) := below_upto HB0.out hm.bel (Nat.le_refl _)
                  have HCT := Lib.hid (dkCut_any hm.st.dk (A := Ak) (n := nk) (c := ck) (F := Fl) ((HFK.out.up HB0.out).up hm.bel) (fun h0 g o e e2 => by
                    obtain ⟨b, o', e', hb, _⟩ := HFK.out.2 h0
                    rw [e] at e'
                    injection e' with e'
                    injection e' with e1 e3
                    subst e1
                    have := (hm.st.lts.2.2.2 _ e2).1
                    have := HB0.out.size
                    omega))
                  have c9 := hm.c9
                  have lW3 := hm.lts.1
                  clear hm hi hem hkn hxc hpd hje2
                  go_wp2_with fail
                  refine HCT.out.mono ?_
                  rintro _ w4 ⟨rfl, hd, ho⟩
                  have hm4 := HM.out.disk hd ho rfl rfl
                  obtain ⟨er, her, hpn⟩ := putNil_any hm4 rfl (show Em _ from fun h0 => HEM.out h0)
                  have HPN := Lib.hid hpn
                  have HM4 := Lib.hid hm4
                  have c104 := hm4.c10
                  have lW4 := hm4.lts.1
                  unfold PLong addrV at HPN
                  clear hd ho hm4 hpn HCT HM HEM c9 lW3
                  go_wp2_with fail
                  refine HPN.out.mono ?_
                  rintro _ w5 ⟨rfl, hb5⟩
                  have HM5 := Lib.hid (HM4.out.up hb5)
                  clear HPN hb5 c104 lW4 HM4
                  go_upto_region 26 with (fail)
                  refine wp_forget (fun W => WoM V W Wb D P T M O vA vL ⟨{ x3.s with d := DkS.settle (fun i => Fl.getD i false) ⟨x3.s.d.S, x3.s.d.z, x3.s.d.kept, x3.s.d.pend, true⟩ }, x3.ad, x3.bl⟩) (HM5.out.up ((Below.refl _ _).alloc (Nat.le_refl _) _)) ?_
                  clear HM5
                  rintro W6 hm6
                  have HM6 := Lib.hid hm6
                  have lW6 := hm6.lts.1
                  have HBR6 : Hid (Below w.heap.size w W6) := below_upto HB0.out hm6.bel (Nat.le_refl _)
                  rcases her with rfl | ⟨rfl, hpos⟩
                  rotate_left
                  · obtain ⟨Aa, ca, hva⟩ : ∃ Aa ca, vA = .slice Aa x3.ad.length ca := by
                      rcases hm6.rA.2 with ⟨hh, h0⟩ | ⟨g, cap, cur, hh, _⟩
                      · exact ⟨_, _, by rw [hh, h0]⟩
                      · exact ⟨_, _, hh⟩
                    have c11 : W6.cell? ⟨Wb, 11, none⟩ = some (.slice Aa x3.ad.length ca) := by rw [hm6.c11, hva]
                    have hpi : (x3.ad.length : Int) > 0 := by omega
                    clear hm6 hva hpos HM6 HKN HI
                    go_wp2
                    go_ret
                    exact ⟨rfl, HBR6.out⟩
                  · have c9 := hm6.c9
                    have HON := Lib.hid (dkOn_any hm6.st.dk)
                    clear hm6
                    go_wp2_with fail
                    refine HON.out.mono ?_
                    rintro _ w7 ⟨rfl, hd, ho⟩
                    have hm7 := HM6.out.disk hd ho rfl rfl
                    obtain ⟨x7, hm7, hft, hof7, hln7, hx200⟩ : ∃ x7, WoM V w7 Wb D P T M O vA vL x7 ∧ FinT x7 m ∧ x7.s.d.off = false ∧ x7.ad.length = x7.bl.length ∧ x7.ad.length ≤ 200 := ⟨_, hm7, HKN.out.fin HI.out ⟨HM6.out.st.ok.ok, HM6.out.st.ok.dS, HM6.out.st.ok.dz, HM6.out.st.ok.tn, HM6.out.st.ok.opn, HM6.out.st.ok.one, HM6.out.st.ok.usl, HM6.out.st.ok.us0, HM6.out.st.ok.uk⟩ (fun b hb => (HM6.out.bin b hb).2) (fun i => Fl.getD i false), rfl, HI.out.len, by show x3.ad.length ≤ 200; omega⟩
                    have HM := Lib.hid hm7
                    have HT := Lib.hid hft
                    have HOF := Lib.hid hof7
                    have HLN := Lib.hid hln7
                    clear hd ho HM6 HON HKN HI hm7 hft hof7 hln7 c9 lW6 HBR6 HBR
                    go_wp2_with fail
                    go_loopw [18] (fun i wr => ∃ j : Nat, j ≤ x7.ad.length ∧ i = .int .i64 (j : Nat) ∧ WoM V wr Wb D P T M O vA vL x7) (fun i _ => x7.ad.length - (intOf i).toNat)
                    case atStart => exact ⟨0, Nat.zero_le _, rfl, HM.out⟩
                    case round =>
                      obtain ⟨j3, hj3, rfl, hmr⟩ := hrel
                      clear HM
                      have HM := Lib.hid hmr
                      have lW := hmr.lts.1
                      have HBR7 : Hid (Below w.heap.size w wr) := below_upto HB0.out hmr.bel (Nat.le_refl _)
                      obtain ⟨Aa, ca, hva⟩ : ∃ Aa ca, vA = .slice Aa x7.ad.length ca := by
                        rcases hmr.rA.2 with ⟨hh, h0⟩ | ⟨g, cap, cur, hh, _⟩
                        · exact ⟨_, _, by rw [hh, h0]⟩
                        · exact ⟨_, _, hh⟩
                      have c11 : wr.cell? ⟨Wb, 11, none⟩ = some (.slice Aa x7.ad.length ca) := by rw [hmr.c11, hva]
                      have c10 := hmr.c10
                      by_cases hlt3 : j3 < x7.ad.length
                      · obtain ⟨⟨a, N⟩, hp⟩ : ∃ p, x7.ad[j3]? = some p := ⟨_, List.getElem?_eq_getElem hlt3⟩
                        have hlt4 : j3 < x7.bl.length := by rw [← HLN.out]; exact hlt3
                        obtain ⟨b, hbj⟩ : ∃ b, x7.bl[j3]? = some b := ⟨_, List.getElem?_eq_getElem hlt4⟩
                        obtain ⟨⟨k, hrn⟩, hget, her⟩ := HT.out j3 a N b hp hbj
                        obtain ⟨r, hr⟩ : ∃ r, r = x7.s.d.getB a N := ⟨_, rfl⟩
                        rw [← hr] at hget her
                        obtain ⟨G, cap, hG, hcap, _⟩ := World.ownsRow.form hmr.rA (show 0 < x7.ad.length by omega)
                        have k0 := World.ownsRow.cells hmr.rA (g := G) (by rw [hG]; rfl) (j3 * 2) _ (adCells_at _ j3 _ hp).1
                        have k1 := World.ownsRow.cells hmr.rA (g := G) (by rw [hG]; rfl) (j3 * 2 + 1) _ (adCells_at _ j3 _ hp).2
                        have lG := (hmr.lts.2.1 G (by rw [hG]; rfl)).2
                        rw [addr_plain'] at k0 k1
                        rw [hva] at hG
                        injection hG with e1 e2 e3
                        subst e1
                        have HRN := Lib.hid hrn
                        have HGT := Lib.hid hr
                        have HVA := Lib.hid hva
                        have HBJ := Lib.hid hbj
                        have HGE := Lib.hid hget
                        have HER := Lib.hid her
                        have u0 : (j3 : Int) < (x7.ad.length : Int) := by omega
                        clear hmr hva hp hbj hrn hget hcap e2 e3 hr her
                        go_upto_region 32 with (fail)
                        refine wp_region_up_tail 11 (by kernel_rfl) (by kernel_rfl) (by kernel_rfl) ?_
                        simp only [List.take_succ_cons, List.take_zero, List.drop_succ_cons, List.drop_zero]
                        repeat (go_big_quiet_step (fail))
                        refine wpQuiet_nil ?_
                        rintro _ ⟨g, rfl⟩
                        have HMG : Hid (WoM V g.world Wb D P T M O vA vL x7) := HM.out.up g.h
                        have HGG : Hid (Calls Try.prog 14 #[.pointer (some ⟨P, 0, none⟩), addrV a N] g.world (GtPost V.heap.size g.world P D T M O x7.s r)) := by rw [HGT.out]; exact stGet_any HMG.out.st HRN.out HOF.out
                        unfold addrV at HGG
                        go_wp2_with fail
                        refine HGG.out.mono ?_
                        rintro _ w8 ⟨A', n', c', rfl, ⟨w9, hF, _⟩, hst, hoff⟩
                        have hm2 := HMG.out.read hst hoff
                        have HM2 := Lib.hid hm2
                        have lW2 := hm2.lts.1
                        clear hst hoff HGG HMG c10 c11 k0 k1 lG HRN HGT
                        by_cases hjm : j3 < m
                        · have hrb := HGE.out hjm
                          subst hrb
                          have hF' : FrB w9 w8 (.slice A' n' c') b.L := hF
                          have HS2 : Hid (SBy w8 A' n' b.L) := hF'.sby
                          obtain ⟨AL, cL, hvl⟩ : ∃ AL cL, vL = .slice AL x7.bl.length cL := by
                            rcases hm2.rL.2 with ⟨hh, h0⟩ | ⟨g, cap, cur, hh, _⟩
                            · exact ⟨_, _, by rw [hh, h0]⟩
                            · exact ⟨_, _, hh⟩
                          have c12 : w8.cell? ⟨Wb, 12, none⟩ = some (.slice AL x7.bl.length cL) := by rw [hm2.c12, hvl]
                          obtain ⟨G2, cap, hG, hcap, _⟩ := World.ownsRow.form hm2.rL (show 0 < x7.bl.length by omega)
                          have k2 := World.ownsRow.cells hm2.rL (g := G2) (by rw [hG]; rfl) (j3 * 1) b.v (by rw [Nat.mul_one, List.getElem?_map, HBJ.out]; rfl)
                          have lG := (hm2.lts.2.2 G2 (by rw [hG]; rfl)).2
                          rw [addr_plain', Nat.mul_one] at k2
                          rw [hvl] at hG
                          injection hG with e1 e2 e3
                          subst e1
                          have hbi := (hm2.bin b (List.mem_of_getElem? HBJ.out)).1
                          have HCV1 : Hid (∀ g : Up w8, (convert 28 9 (.slice A' n' c')).run Try.prog g.world = .ok (.string (strB b.L)) g.world) := fun g => (HS2.out.up g.h).str c'
                          have HCV2 : Hid (∀ g : Up w8, (convert 28 9 (.slice b.A b.n b.c)).run Try.prog g.world = .ok (.string (strB b.L)) g.world) := fun g => ((hbi.1.up hm2.bel).up g.h).str b.c
                          have u1 : (j3 : Int) < (x7.bl.length : Int) := by omega
                          have u2 : (j3 : Int) < (m : Int) := by omega
                          have HBI := Lib.hid hbi
                          unfold BArg.v at k2
                          clear hm2 hvl hcap e2 e3 hbi hF hF'
                          simp only
                          go_upto_region 33 with (fail)
                          have cv1 := HCV1.out
                          have cv2 := HCV2.out
                          refine wp_region_up (by kernel_rfl) (by kernel_rfl) ?_
                          repeat (go_big_quiet_step (fail))
                          refine wpQuiet_nil ?_
                          rintro _ ⟨g, rfl⟩
                          have HMF : Hid (WoM V g.world Wb D P T M O vA vL x7) := HM2.out.up g.h
                          clear cv1 cv2 HCV1 HCV2
                          go_wp2
                          go_roundw
                          case rel => exact ⟨j3 + 1, by omega, by go_num, HMF.out⟩
                          case measure => simp [intOf]; omega
                        · have u2 : ¬ (j3 : Int) < (m : Int) := by omega
                          obtain ⟨rL, re⟩ := r
                          have her := HER.out
                          simp only at her ⊢
                          clear hm2 hF HER HGE
                          rcases her with rfl | rfl
                          all_goals
                            go_upto_region 33 with (fail)
                            refine wp_region_up (by kernel_rfl) (by kernel_rfl) ?_
                            repeat (go_big_quiet_step (fail))
                            refine wpQuiet_nil ?_
                            rintro _ ⟨g, rfl⟩
                            have HMF : Hid (WoM V g.world Wb D P T M O vA vL x7) := HM2.out.up g.h
                            go_wp2
                            go_roundw
                            case rel => exact ⟨j3 + 1, by omega, by go_num, HMF.out⟩
                            case measure => simp [intOf]; omega
                      · have hje3 : ¬ (j3 : Int) < (x7.ad.length : Int) := by omega
                        clear hmr hva
                        go_wp2
                        go_ret
                        exact ⟨rfl, HBR7.out⟩
end Go.Proofs.Ytlmgihnnphmmhaa
