/- PagerPuts, walked. -/
import Derived.Test.YtmipngefpedfpaaWd
namespace Go.Proofs.Ytmipngefpedfpaa
open Go.RowKit Go.Maps
set_option linter.unusedVariables false
set_option linter.unusedSimpArgs false

structure Pu1 (S : Nat) (wk wr : World) (d : PD) (t : PSt ShS) (z : Nat) (Lw : Bytes) (v : Value) (i : Nat) : Prop where
  vw : Vw S wk wr d t (CnP z Lw i) True (900000 - 2 * i)
  nx : t.nx = i + 1
  cnt : t.s.L.length ≤ i
  row : OwI wk.heap.size wr v (idL i)
  out : ∀ g, v.ownBlock = some g → ¬ Own d t g
structure Pu2 (S : Nat) (wk wr : World) (d : PD) (t : PSt ShS) (z : Nat) (Lw : Bytes) (v : Value) (n k m q : Nat) : Prop where
  vw : Vw S wk wr d t (CnP z Lw n) True k
  nx : t.nx = n + 1
  cnt : t.s.L.length ≤ q
  row : OwI wk.heap.size wr v (idL n)
  out : ∀ g, v.ownBlock = some g → ¬ Own d t g
  put : PutTo t m
section
variable {S : Nat} {wk wr w w' w1 w2 : World} {d : PD} {t t' : PSt ShS} {C : Cn} {R : Prop} {k z j n m q : Nat} {Lw : Bytes} {v : Value}
theorem OwI.nx {B : Nat} {L : List Int} (h : OwI B w v L) (hn : Nx S w w' d t t') (ho : ∀ g, v.ownBlock = some g → ¬ Own d t g) : OwI B w' v L := h.off hn.off ho
theorem Pu2.len (h : Pu2 S wk wr d t z Lw v n k m q) : ∃ A c, v = .slice A n c ∧ (0 < n → ∃ g, A = some ⟨g, 0, none⟩ ∧ g < wr.heap.size ∧ v.ownBlock = some g ∧ ∀ i, i < n → wr.cell? ⟨g, i, none⟩ = some (.int .i64 ((i : Int) + 1))) := by
  obtain ⟨A, c, e, h1, h2, h3, h4, h5⟩ := h.row.form
  rw [idL_len] at e
  refine ⟨A, c, e, fun hp => ?_⟩
  obtain ⟨g, hg⟩ := h5 (fun e0 => by have := congrArg List.length (h3 e0); rw [idL_len] at this; simp at this; omega)
  obtain ⟨_, g1, g2, _, g3⟩ := h4 g 0 hg
  refine ⟨g, hg, g2, g1, fun i hi => ?_⟩
  have := g3 i (by rw [idL_len]; exact hi)
  rw [Nat.zero_add, idL_at hi] at this
  exact this
theorem Pu2.up (h : Pu2 S wk w d t z Lw v n k m q) (hb : Below w.heap.size w w') : Pu2 S wk w' d t z Lw v n k m q := ⟨h.vw.up hb, h.nx, h.cnt, h.row.up hb, h.out, h.put⟩
theorem Pu2.step (h : Pu2 S wk w d t z Lw v n k m q) {k' q' : Nat} (hv : Vw S wk w' d t' (CnP z Lw n) True k') (hn : Nx S w w' d t t') (hm : t'.nx = t.nx) (he : Ev shP d.z j none9 t t') (hc : t'.s.L.length ≤ q') : Pu2 S wk w' d t' z Lw v n k' m q' := by
  refine ⟨hv, hm.trans h.nx, hc, h.row.nx hn h.out, fun g hg => ?_, h.put.ev he⟩
  exact (hn.keep (h.row.lt g hg).2 (h.out g hg)).2
theorem Pu2.put1 (h : Pu2 S wk w d t z Lw v n k m q) {a : Int × Int} (hp : ∃ x, t.pm ((m : Int) + 1) = some x ∧ x.put = true ∧ x.at_ = a) : Pu2 S wk w d t z Lw v n k (m + 1) q :=
  ⟨h.vw, h.nx, h.cnt, h.row, h.out, fun i x hi hx => by
    by_cases he : i = (m : Int) + 1
    · obtain ⟨y, h1, h2, _⟩ := hp
      rw [he, h1] at hx
      cases hx
      exact h2
    · exact h.put i x (by omega) hx⟩
end
theorem sl_sby {w : World} {A : Option Addr} {n c : Nat} {L : Bytes} (h : SlB w (.slice A n c) L) : SBy w A n L := by
  obtain ⟨A', n', c', e, _, h2⟩ := h
  cases e
  exact h2
theorem turn_abs {t : Int} {n : Nat} (hn : 0 < n) : ∃ q : Nat, q < n ∧ ((0 ≤ t.tmod n ∧ t.tmod n = (q : Int)) ∨ (t.tmod n < 0 ∧ 0 - t.tmod n = (q : Int))) := by
  have h1 := Int.tmod_lt_of_pos t (b := (n : Int)) (by omega)
  have h2 : -(n : Int) < t.tmod n := by
    have := Int.tmod_lt_of_pos (-t) (b := (n : Int)) (by omega)
    rw [Int.neg_tmod] at this
    omega
  by_cases h : 0 ≤ t.tmod n
  · exact ⟨(t.tmod n).toNat, by omega, .inl ⟨h, by omega⟩⟩
  · exact ⟨(0 - t.tmod n).toNat, by omega, .inr ⟨by omega, by omega⟩⟩
theorem pu1_next {S : Nat} {wk wr w3 w4 w5 : World} {d : PD} {t t3 t5 : PSt ShS} {z i : Nat} {Lw : Bytes} {v : Value} (h : Pu1 S wk wr d t z Lw v i) (n3 : Nx S wr w3 d t t3) (x3 : t3.nx = t.nx + 1) (s3 : t3.s = t.s) (hb4 : Below w3.heap.size w3 w4)
    {k : Nat} (hv5 : Vw S wk w5 d t5 (updC (updC (CnP z Lw i) ((i : Int) + 1) (some (some (zeros z)))) ((i : Int) + 1) (some (some (setB (zeros z) 0 [b8 (at8 Lw i), b8 i])))) True k) (hn5 : Nx S w4 w5 d t3 t5) {E : Int → Prop} (he5 : Ev shP d.z 1 E t3 t5) (hm5 : Nm d t3 t5) (hk : 900000 - 2 * (i + 1) ≤ k ∧ i < 20) :
    ∃ v' w7, (∀ ty, (Builtin.append_ #[38, 38] ty #[v, .slice (some ⟨w5.heap.size, 0, none⟩) 1 1]).run Try.prog (w5.alloc (.cells #[.int .i64 ((i : Int) + 1)] 3)) = .ok v' w7) ∧ Pu1 S wk w7 d t5 z Lw v' (i + 1) := by
  have hn : Nx S wr w5 d t t5 := (n3.up hb4).trans hn5
  have hrow5 := h.row.nx hn h.out
  have hout5 : ∀ g, v.ownBlock = some g → ¬ Own d t5 g := fun g hg => (hn.keep (h.row.lt g hg).2 (h.out g hg)).2
  have hba : Below w5.heap.size w5 (w5.alloc (.cells #[.int .i64 ((i : Int) + 1)] 3)) := (Below.refl _ _).alloc (Nat.le_refl _) _
  obtain ⟨v', w7, hr, hrow7, hg7, hat7⟩ := run_appI (g := w5.heap.size) (i := (i : Int) + 1) (hrow5.up hba) (alloc_at w5 _ _).1 (Nat.le_trans hv5.bel.size hba.size) (by rw [idL_len]; omega) 38
  have hv6 := hv5.up hba
  refine ⟨v', w7, fun ty => hr, ⟨?_, ?_, ?_, ?_, fun g hg => ?_⟩⟩
  · have h7 := hv6.offL (grown_off hg7) (fun b hb => hout5 b hb) (fun b hb => (h.row.lt b hb).1)
    rw [show setB (zeros z) 0 [b8 (at8 Lw i), b8 i] = pgB z Lw i from rfl, CnP_succ] at h7
    exact h7.less hk.1
  · rw [hm5.nx, x3, h.nx]
  · have e1 : t5.s.L.length ≤ t3.s.L.length + 1 := he5.cnt
    rw [s3] at e1
    have := h.cnt
    omega
  · rw [idL_succ]; exact hrow7
  · rcases hat7 with e | e
    · rw [e] at hg; exact hout5 g hg
    · rw [e] at hg
      cases hg
      exact fresh_no hv6 (Nat.le_refl _)
set_option maxRecDepth 100000 in
set_option maxHeartbeats 8000000 in
theorem puts_yes (w : World) {z held : Nat} {A B : Option Addr} {na ca nb cb : Nat} {Lw : Bytes} {G : Nat → Int} (hA : SBy w A na Lw) (hB : SIn w B nb G) (h1 : 16 ≤ z) (h2 : z ≤ 256) (h3 : 1 ≤ held) (h4 : held ≤ 20) (h5 : na ≤ 20) (h6 : nb ≤ 50) :
    Calls Try.prog 4 #[.int .i64 (z : Nat), .int .i64 (held : Nat), .slice A na ca, .slice B nb cb] w fun e w' => e = .returned (.bool true) ∧ Below w.heap.size w w' := by
  have HA := Lib.hid hA
  have HB := Lib.hid hB
  clear hA hB
  go_enter Try.func4, Try.ntmps4
  go_wp2_with fail
  refine (known_any _).mono ?_
  rintro e wk ⟨rfl, hb⟩
  have HB0 := Lib.hid hb
  clear hb
  go_wp2_with fail
  refine (newShelf_any _).mono ?_
  rintro e w1 hs
  have HS := Lib.hid hs
  have he := hs.1
  subst he
  have HN := Lib.hid (pgNew_any (M := shM wk.heap.size) (P := shP) (z : Int) (held : Int) (shNew_in hs).1 (shNew_in hs).2)
  clear hs
  go_wp2_with fail
  refine HN.out.mono ?_
  rintro e w2 (⟨_, _, hbad⟩ | ⟨d, t, rfl, _, hp⟩)
  · omega
  have hv := vw_new HS.out hp
  have HP := Lib.hid (show d.z = z ∧ d.n = held by have := hp.z; have := hp.n; simp at *; omega)
  have HA1 := Lib.hid (HA.out.up HB0.out)
  have HB1 := Lib.hid (HB.out.up HB0.out)
  have H1 : Hid (Pu1 wk.heap.size wk w2 d t z Lw (.slice none 0 0) 0) := Lib.hid ⟨by
    have e : CnP z Lw 0 = fun _ => none := by funext k; unfold CnP; rw [if_neg (by omega)]
    rw [e]
    exact hv.less (by omega), hp.nx, by rw [hp.s]; exact Nat.le_refl _, OwI.empty _ _, fun g hg => by cases hg⟩
  clear hp HN HS hv HA HB
  generalize wk.heap.size = S at *
  go_wp2
  go_loopw [12, 13] (fun v iv wr => ∃ (i : Nat) (t : PSt ShS), i ≤ na ∧ iv = .int .i64 (i : Nat) ∧ Pu1 S wk wr d t z Lw v i) (fun _ iv _ => na - (intOf iv).toNat)
  case atStart => exact ⟨0, t, Nat.zero_le _, rfl, H1.out⟩
  case round =>
    obtain ⟨i, t, hi, rfl, hat⟩ := hrel
    have HAT := Lib.hid hat
    clear H1
    by_cases hlt : i < na
    · have hnx : ((t.nx : Nat) : Int) = (i : Int) + 1 := by rw [hat.nx]; rfl
      have HM := Lib.hid (vw_make (hat.vw.less (k' := 900000 - 2 * (i + 1) + 1 + 1) (by omega)))
      rw [hnx, HP.out.1] at HM
      have hin : i < 256 := by omega
      have HNX := Lib.hid hnx
      clear hat hnx
      go_wp2_with fail
      refine HM.out.mono ?_
      rintro e w3 ⟨rfl, t3, hv3, hn3, hx3, hc3, hs3⟩
      have HV3 := Lib.hid hv3
      have HN3 := Lib.hid hn3
      have HX3 := Lib.hid (show t3.nx = t.nx + 1 ∧ t3.s = t.s from ⟨hx3, hs3⟩)
      obtain ⟨ba, oa, rfl, hba, hca⟩ := (HA1.out.up hv3.bel).2 (by omega)
      have ca1 := hca i hlt
      have hu8 : IntKind.u8.wrap (i : Int) = (i : Int) := by unfold IntKind.wrap; simp [IntKind.min, IntKind.max, IntKind.signed, IntKind.bits]; omega
      clear hv3 hn3 hx3 hc3 hs3 hca HM
      have hb4 : Below w3.heap.size w3 (w3.alloc (.cells #[.int .u8 (at8 Lw i : Nat), .int .u8 (i : Nat)] 5)) := (Below.refl _ _).alloc (Nat.le_refl _) _
      have HW := Lib.hid (vw_write (id := (i : Int) + 1) (b := zeros z) (by_ := [b8 (at8 Lw i), b8 i]) (off := 0) (cb := 2) (HV3.out.up hb4) trivial (updC_same _ _ _) (sby_row w3 #[.int .u8 (at8 Lw i : Nat), .int .u8 (i : Nat)] [b8 (at8 Lw i), b8 i] _ _ (by simp [bv_b8 (at8_lt Lw i), bv_b8 hin])) (by rw [HP.out.1]; simp; omega) (vin_new HV3.out (Nat.le_refl _)))
      have HB4 := Lib.hid hb4
      clear hb4
      go_wp2_with fail
      refine HW.out.mono ?_
      rintro e w5 ⟨rfl, t5, hv5, hn5, he5, hm5⟩
      have HX := Lib.hid (pu1_next HAT.out HN3.out HX3.out.1 HX3.out.2 HB4.out hv5 hn5 he5 hm5 (by omega))
      obtain ⟨v', w7, hr, hp7⟩ := HX.out
      have HP7 := Lib.hid hp7
      clear hv5 hn5 he5 hm5 HX HW HN3 HX3 HV3 HB4 hp7
      go_wp2_with (at_builtin; go_must (refine wpList_append_run rfl (.tmp 85) (.tmp 87) 38 rfl _ _ rfl rfl (hr _) ?_))
      clear hr
      go_roundw
      case rel => exact ⟨i + 1, t5, by omega, by go_num, HP7.out⟩
      case measure => simp [intOf]; omega
    · have hi2 : i = na := by omega
      subst hi2
      have H2 : Hid (Pu2 S wk wr d t z Lw u12 i (900000 - 2 * i) 0 i) := Lib.hid ⟨hat.vw, hat.nx, hat.cnt, hat.row, hat.out, fun j x hj hx => by have := (hat.vw.inv.ids j x hx).1; omega⟩
      clear hat HAT
      obtain ⟨Av, cv, rfl, _⟩ := H2.out.len
      go_wp2
      go_loopw [15] (fun iv wr2 => ∃ (j : Nat) (t : PSt ShS), j ≤ i ∧ iv = .int .i64 (j : Nat) ∧ Pu2 S wk wr2 d t z Lw (.slice Av i cv) i (899000 - 2 * j) j (i + j)) (fun iv _ => i - (intOf iv).toNat)
      case atStart => exact ⟨0, t, Nat.zero_le _, rfl, ⟨H2.out.vw.less (by omega), H2.out.nx, H2.out.cnt, H2.out.row, H2.out.out, H2.out.put⟩⟩
      case round =>
        obtain ⟨j, t, hj, rfl, hat⟩ := hrel
        have HAT := Lib.hid hat
        clear H2
        by_cases hjl : j < i
        · obtain ⟨_, _, e, hcl⟩ := hat.len
          cases e
          obtain ⟨gv, rfl, hgl, _, hcv⟩ := hcl (by omega)
          have hcj := hcv j hjl
          have HSV := Lib.hid (vw_save (id := (j : Int) + 1) (hat.vw.less (k' := 899000 - 2 * (j + 1) + 1) (by omega)) trivial (CnP_at hjl))
          clear hat hcl hcv
          go_wp2_with fail
          refine HSV.out.mono ?_
          rintro e w3 ⟨t3, a, rfl, hv3, hn3, he3, hm3, _, hp3, _⟩
          unfold addrV
          have hc3 : t3.s.L.length ≤ t.s.L.length + 1 := he3.cnt
          have HN := Lib.hid ((HAT.out.step hv3 hn3 hm3.nx he3 (q' := i + (j + 1)) (by have := HAT.out.cnt; omega)).put1 hp3)
          clear hv3 hn3 he3 hm3 hp3 hc3 HSV hcj HAT
          go_wp2_with fail
          go_roundw
          case rel => exact ⟨j + 1, t3, by omega, by go_num, HN.out.up (by go_grown)⟩
          case measure => simp [intOf]; omega
        · have hj2 : j = i := by omega
          subst hj2
          have H3 : Hid (Pu2 S wk wr d t z Lw (.slice Av j cv) j (890000 - 30 * 0) j t.s.L.length) := Lib.hid ⟨hat.vw.less (by omega), hat.nx, Nat.le_refl _, hat.row, hat.out, hat.put⟩
          have HCN := Lib.hid (show t.s.L.length ≤ 2 * j by have := hat.cnt; omega)
          obtain ⟨Ar, cr, q0⟩ := hat.vw.rows
          have lS := hat.vw.ltS
          have hjn : ¬ (j : Int) < (j : Int) := by omega
          obtain ⟨N, hN⟩ : ∃ N, N = t.s.L.length := ⟨_, rfl⟩
          have H3a : Hid (t.s.L.length = N) := Lib.hid hN.symm
          rw [← hN] at H3 HCN q0
          clear hat HAT hj hi hjl hN
          go_wp2
          clear q0 lS hjn
          go_loopw [19] (fun iv wr3 => ∃ (e : Nat) (t : PSt ShS), e ≤ nb ∧ iv = .int .i64 (e : Nat) ∧ Pu2 S wk wr3 d t z Lw (.slice Av j cv) j (890000 - 30 * e) j N ∧ t.s.L.length = N) (fun iv _ => nb - (intOf iv).toNat)
          case atStart => exact ⟨0, t, Nat.zero_le _, rfl, H3.out, H3a.out⟩
          case round =>
            obtain ⟨e, t, he, rfl, hat, hL⟩ := hrel
            have HAT := Lib.hid hat
            have HL := Lib.hid hL
            clear H3 H3a
            by_cases hel : e < nb
            · obtain ⟨be, oe, rfl, hbe, hce⟩ := (HB1.out.up hat.vw.bel) (by omega)
              have hc1 := hce e hel
              have HE := Lib.hid (fun n => vw_evict (k := 890000 - 30 * e - 21) (hat.vw.less (by rw [HP.out.2]; omega)) n)
              clear hat hL hce
              go_wp2_with fail
              refine (HE.out _).mono ?_
              rintro ee w3 ⟨t3, j3, rfl, hv3, hn3, he3, hm3, _⟩
              have hall := HAT.out.put.all HAT.out.vw HAT.out.nx
              have HA3 := Lib.hid (hall.ev he3)
              have HP3 := Lib.hid (HAT.out.step hv3 hn3 hm3.nx he3 (q' := N) (by rw [(hall.ev he3).2, HL.out]; exact Nat.le_refl _))
              have HL3 : Hid (t3.s.L.length = N) := Lib.hid (by rw [(hall.ev he3).2, HL.out])
              have hce3 : w3.cell? ⟨be, oe + e, none⟩ = some (.int .i64 (G e)) := by
                obtain ⟨b', o', e', _, hcx⟩ := (HB1.out.up hv3.bel) (by omega)
                cases e'
                exact hcx e hel
              have hbe3 := lt_of_cell hce3
              clear hv3 hn3 he3 hm3 hall HE hc1 HAT HL hbe
              by_cases hj0 : 0 < j
              · have hne : (j : Int) ≠ 0 := by omega
                obtain ⟨q, hq, hqt⟩ : ∃ q : Nat, q < j ∧ ((0 ≤ (G e).tmod j ∧ (G e).tmod j = (q : Int)) ∨ ((G e).tmod j < 0 ∧ 0 - (G e).tmod j = (q : Int))) := turn_abs hj0
                go_upto_if 135 with (fail)
                generalize hR : (G e).tmod (j : Int) = Rr at hqt
                clear hR
                obtain ⟨bR, hbR⟩ : ∃ b, b = decide (Rr < 0) := ⟨_, rfl⟩
                have HBR := Lib.hid hbR
                have HQT := Lib.hid hqt
                rw [← hbR]
                clear hbR hqt
                go_cut [20] from 136 to 137 (fun sv V => sv = .int .i64 (q : Nat) ∧ V = w3)
                case first =>
                  cases bR with
                  | false =>
                    have H2 : Hid (Rr = (q : Int)) := Lib.hid (by
                      have h9 := HBR.out
                      have h8 := of_decide_eq_false h9.symm
                      rcases HQT.out with ⟨_, h⟩ | ⟨h, _⟩
                      · exact h
                      · exact absurd h h8)
                    go_wp2_with fail
                    go_meet
                    exact ⟨by rw [H2.out], rfl⟩
                  | true =>
                    have h8 := of_decide_eq_true HBR.out.symm
                    have H2 : Hid (0 - Rr = (q : Int)) := Lib.hid (by
                      rcases HQT.out with ⟨h, _⟩ | ⟨_, h⟩
                      · omega
                      · exact h)
                    have hw : Hid (wrap64 (-Rr) = 0 - Rr) := Lib.hid (by have := H2.out; unfold wrap64; omega)
                    clear h8
                    go_wp2_with fail
                    go_meet
                    exact ⟨by rw [hw.out, H2.out], rfl⟩
                case rest =>
                  obtain ⟨rfl, rfl⟩ := hcut
                  clear HBR HQT hne
                  obtain ⟨_, _, e9, hcl⟩ := HP3.out.len
                  cases e9
                  obtain ⟨gv, rfl, hgl, hgo, hcv⟩ := hcl hj0
                  have hcq := hcv q hq
                  have HRD := Lib.hid (vw_read (id := (q : Int) + 1) (off := 0) (n := 2) (HP3.out.vw.less (k' := 890000 - 30 * (e + 1) + 2 + 1) (by omega)) trivial (CnP_at hq) (by rw [HP.out.1]; omega))
                  have hqI : (q : Int) < (j : Int) := by omega
                  clear hcl hcv hce3
                  go_wp2_with fail
                  refine HRD.out.mono ?_
                  rintro ee w4 ⟨t4, A4, c4, rfl, hv4, hn4, he4, hm4, hs4, hi4⟩
                  have HA4 := Lib.hid (HA3.out.1.ev he4)
                  have HP4 := Lib.hid (HP3.out.step hv4 hn4 hm4.nx he4 (q' := N) (by rw [(HA3.out.1.ev he4).2, HL3.out]; exact Nat.le_refl _))
                  have HL4 : Hid (t4.s.L.length = N) := Lib.hid (by rw [(HA3.out.1.ev he4).2, HL3.out])
                  have HS4 := Lib.hid hs4
                  have HI4 := Lib.hid (show VIn (fun b => ¬ Own d t4 b) (.slice A4 2 c4) from hi4.mono fun b h => h.1)
                  have hcq4 := (hn4.cell (o := q) hgl (HP3.out.out gv hgo)).trans hcq
                  have hgl4 := lt_of_cell hcq4
                  have HSV := Lib.hid (vw_save (id := (q : Int) + 1) (HP4.out.vw.less (k' := 890000 - 30 * (e + 1) + 1 + 1) (by omega)) trivial (CnP_at hq))
                  clear hv4 hn4 he4 hm4 hs4 hi4 HRD hcq hgl
                  go_wp2_with fail
                  refine HSV.out.mono ?_
                  rintro ee w5 ⟨t5, a5, rfl, hv5, hn5, he5, hm5, _⟩
                  unfold addrV
                  have HP5 := Lib.hid (HP4.out.step hv5 hn5 hm5.nx he5 (q' := N) (by rw [(HA4.out.1.ev he5).2, HL4.out]; exact Nat.le_refl _))
                  have HL5 : Hid (t5.s.L.length = N) := Lib.hid (by rw [(HA4.out.1.ev he5).2, HL4.out])
                  have hs5 := sl_sby (HS4.out.nx hn5 HI4.out)
                  rw [pgB_2 h1 (by omega)] at hs5
                  have HW5 := Lib.hid (HA1.out.up hv5.bel)
                  have HS5 := Lib.hid hs5
                  have HBW := Lib.hid hv5.bel
                  clear hv5 hn5 he5 hm5 hs5 HSV hcq4 hgl4 HS4 HI4 HA4 HP4 HL4 HA3 HP3 HL3 hgo
                  go_upto_region 34 with (fail)
                  refine wp_forget (fun V => Below w5.heap.size w5 V) (by go_grown) ?_
                  intro V hb6
                  have HP6 := Lib.hid (HP5.out.up hb6)
                  obtain ⟨bx, ox, rfl, hbx, hcx⟩ := (HS5.out.up hb6).2 (by omega)
                  obtain ⟨bw, ow, rfl, hbw, hcw⟩ := (HW5.out.up hb6).2 (by omega)
                  have x0 := hcx 0 (by omega)
                  have x1 := hcx 1 (by omega)
                  have y0 := hcw q hq
                  rw [show at8 [b8 (at8 Lw q), b8 q] 0 = at8 Lw q by simp [at8, b8_toNat, b8]] at x0
                  rw [show at8 [b8 (at8 Lw q), b8 q] 1 = q by show (b8 q).toNat = q; exact b8_lt (by omega)] at x1
                  rw [Nat.add_zero] at x0
                  have hu8 : IntKind.u8.wrap (q : Int) = (q : Int) := by unfold IntKind.wrap; simp [IntKind.min, IntKind.max, IntKind.signed, IntKind.bits]; omega
                  generalize at8 Lw q = yq at x0 y0
                  clear hcx hcw hb6 HS5 HW5 HP5
                  refine wp_region_up (by kernel_rfl) (by kernel_rfl) ?_
                  repeat (go_big_quiet_step (fail))
                  refine wpQuiet_nil ?_
                  rintro _ ⟨g, rfl⟩
                  have HP7 := Lib.hid (HP6.out.up g.h)
                  clear x0 x1 y0 HP6
                  go_wp2
                  go_roundw
                  case rel => exact ⟨e + 1, t5, by omega, by go_num, ⟨HP7.out.vw.less (by omega), HP7.out.nx, HP7.out.cnt, HP7.out.row, HP7.out.out, HP7.out.put⟩, HL5.out⟩
                  case measure => simp [intOf]; omega
              · go_wp2
                go_roundw
                case rel => exact ⟨e + 1, t3, by omega, by go_num, ⟨HP3.out.vw.less (by omega), HP3.out.nx, HP3.out.cnt, HP3.out.row, HP3.out.out, HP3.out.put⟩, HL3.out⟩
                case measure => simp [intOf]; omega
            · have he2 : e = nb := by omega
              obtain ⟨Ar, cr, q0⟩ := hat.vw.rows
              rw [hL] at q0
              have lS := hat.vw.ltS
              have hc2 : N ≤ 2 * j := HCN.out
              have hbel := Lib.hid hat.vw.bel
              clear hat HAT hL HL
              go_wp2
              go_ret
              exact ⟨ret_bool (decide_eq_true (by omega)), HB0.out.trans (hbel.out.mono HB0.out.size)⟩
end Go.Proofs.Ytmipngefpedfpaa
