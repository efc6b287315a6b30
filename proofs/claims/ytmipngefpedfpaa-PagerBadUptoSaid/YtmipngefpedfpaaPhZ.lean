/- A pager: Held, bring, walked. -/
import Derived.Test.YtmipngefpedfpaaPgZ
namespace Go.Proofs.Ytmipngefpedfpaa
open Go.RowKit Go.Maps
set_option linter.unusedVariables false
set_option linter.unusedSimpArgs false

section
variable {σ : Type} {K : SnkF σ} {M : Snk K} {P : PSnk K} {w w' w1 w2 w3 w4 w5 : World} {d : PD} {t t' t1 t2 : PSt σ} {id : Int} {x : Pg} {j : Nat}
set_option maxRecDepth 100000 in
set_option maxHeartbeats 1000000 in
theorem held_any (h : PgrAt M w d t) : Calls Try.prog 19 #[.pointer (some ⟨d.Q, 0, none⟩)] w fun e w' => e = .returned (.int .i64 (cntF qUsed t.F d.n : Nat)) ∧ Below w.heap.size w w' := by
  have q0 := h.q0
  have HC := Lib.hid (Count_any h.pool)
  clear h
  go_enter Try.func19, Try.ntmps19
  go_wp2_with fail
  refine HC.out.mono ?_
  rintro e w1 ⟨rfl, hb⟩
  have HB := Lib.hid hb
  clear hb
  go_wp2
  go_ret
  exact ⟨rfl, HB.out⟩
theorem E1c {z k : Nat} {L : Bytes} (h : Ev P z k none9 t t1) (hx : t.pm id = some x) (hx1 : t1.pm id = some x) (hc : cont (P.rd t.s) z x = some L) : cont (P.rd t1.s) z x = some L := by
  obtain ⟨y, e1, _, _, _, _, e6⟩ := h.pg id x (fun e => e) hx
  rw [hx1] at e1
  cases e1
  exact e6 L hc
/-- A frame that is given up, where all are used. -/
theorem vic_full (hi : PI P d t) (hh : t.h < d.n) (hc : cntF qUsed t.F d.n = d.n) : ∃ r i : _, r < d.n ∧ t.g i = some r ∧ (sw d.n (2 * d.n + 1) t.h t.F).1 = (r : Nat) := by
  have hu : (t.F 0).used = true := by
    have hle : ∀ m, m ≤ d.n → cntF qUsed t.F m = m → ∀ i, i < m → (t.F i).used = true := by
      intro m
      induction m with
      | zero => intro _ _ i hi; omega
      | succ m ih =>
        intro hm hcc i him
        cases hum : (t.F m).used with
        | true =>
          rw [cntF_yes (q := qUsed) hum] at hcc
          rcases Nat.lt_or_ge i m with h | h
          · exact ih (by omega) (by omega) i h
          · have : i = m := by omega
            subst this; exact hum
        | false =>
          rw [cntF_no (q := qUsed) hum] at hcc
          have := cntF_le qUsed t.F m
          omega
    exact hle d.n (Nat.le_refl _) hc 0 (by omega)
  rcases vic_cases hi.kv hh with ⟨h1, _⟩ | ⟨r, h1, h2, h3⟩
  · exfalso
    have : anyC t.F d.n = true := (anyC_iff _ _).2 ⟨0, by omega, hu, hi.pz 0 (by omega)⟩
    rw [h1] at this
    cases this
  · have hs := sw_form d.n (by omega) (2 * d.n + 1) t.h t.F hh
    obtain ⟨g1, g2⟩ := hs
    rcases g2 with g2 | ⟨r', g2, g3, g4, g5⟩
    · rw [h3] at g2
      simp at g2
    · rw [h3] at g2 g4
      simp at g2
      have hr : r = r' := by omega
      subst hr
      have hur : (t.F r).used = true := by
        rw [← (g1 r).2.1, h3]
        simp [Fr.cand] at g4
        exact g4.1
      exact ⟨r, _, h2, hi.kv.good.a r h2 hur, by rw [h3]⟩
set_option maxRecDepth 100000 in
set_option maxHeartbeats 4000000 in
theorem bring_any (hK : K.Good) (hmi : P.Miss) (h : PgrAt M w d t) (hi : PI P d t) (hx : t.pm id = some x) (hho : t.hole = none ∨ (t.hole = some id ∧ t.g id = none)) (hid : -9223372036854775808 ≤ id ∧ id ≤ 9223372036854775807) (hnx : t.nx < 9223372036854775807) (hrd : K.Rdy t.s 1) (write : Bool) :
    Calls Try.prog 29 #[.pointer (some ⟨d.Q, 0, none⟩), .int .i64 id, .pointer (some ⟨x.X, 0, none⟩), .bool write] w (BrPost (M := M) P w d t id x) := by
  have HF := Lib.hid (Find_any h.pool (int_wf hid))
  have H := Lib.hid h
  have HI := Lib.hid hi
  have HX := Lib.hid hx
  have HRD := Lib.hid hrd
  have HHO := Lib.hid hho
  obtain ⟨hz1, hz2⟩ := h.zs
  have q0 := h.q0
  have HPK := Lib.hid (peek_any hK hmi h hx hi.inn)
  cases hg : t.g id with
  | some j =>
    obtain ⟨hj, hu, hkey⟩ := pi_key hi hg
    have HT := Lib.hid (Touch_yes h.pool j write hj hu)
    have HG := Lib.hid hg
    unfold findV findI at HF
    rw [hg] at HF
    simp only [Option.isSome_some] at HF
    clear h hi hx hrd hho hg hu hkey HPK
    go_enter Try.func29, Try.ntmps29
    go_wp2_with fail
    refine HF.out.mono ?_
    rintro e w1 ⟨rfl, rfl⟩
    go_wp2_with fail
    refine HT.out.mono ?_
    rintro e w1 ⟨rfl, ⟨c5, hp5⟩, ho5⟩
    have HE := Lib.hid (br_res hK HI.out H.out HX.out HG.out (f := { t.F j with ref := true, dirty := (t.F j).dirty || write }) rfl rfl rfl hp5 ho5)
    clear hp5 ho5 q0 HF HT
    go_wp2
    go_ret
    exact HE.out
  | none =>
    have hbb : x.bb = none := by
      cases hb : x.bb with
      | none => rfl
      | some y => exact absurd hg (hi.has id x hx (by rw [hb]; simp))
    have HBB := Lib.hid hbb
    have HG := Lib.hid hg
    unfold findV findI at HF
    rw [hg] at HF
    simp only [Option.isSome_none] at HF
    clear h hi hx hrd hho hg hbb
    go_enter Try.func29, Try.ntmps29
    go_wp2_with fail
    refine HF.out.mono ?_
    rintro e w1 ⟨rfl, rfl⟩
    go_wp2_with fail
    refine HPK.out.mono ?_
    rintro e w1 ⟨s1, v, er, rfl, h1, ho, hs, ⟨L, hc, hl, rfl, B, c, rfl, hby, hB⟩ | ⟨hc, hbb, hz, rfl, rfl⟩⟩
    case inr =>
      obtain ⟨S1, E1⟩ := stp_sink (z := d.z) (E := none9) HI.out h1 ho hs
      have S := Lib.hid S1
      have E := Lib.hid E1
      have HC := Lib.hid hc
      clear h1 ho hs hc hbb hz S1 E1 q0 HF HPK
      go_wp2
      go_ret
      exact ⟨{ t with s := s1 }, 20, rfl, S.out, E.out.more hK (by omega), ⟨rfl, rfl, rfl⟩, .inr (.inr ⟨rfl, HC.out, HG.out⟩)⟩
    case inl =>
      obtain ⟨S1, E1⟩ := stp_sink (z := d.z) (E := none9) HI.out h1 ho hs
      have S := Lib.hid S1
      have E := Lib.hid E1
      have HC := Lib.hid hc
      have HL := Lib.hid hl
      have HBY := Lib.hid hby
      have HRD1 := Lib.hid (hs.rdy 1 HRD.out)
      have HRM := Lib.hid hs.room
      have HRE := Lib.hid hs.rd
      have HH : Hid (∀ g : Up w1, Calls Try.prog 19 #[.pointer (some ⟨d.Q, 0, none⟩)] g.world fun e w'' => e = .returned (.int .i64 (cntF qUsed t.F d.n : Nat)) ∧ ∃ g' : Up w1, w'' = g'.world) := Lib.hid fun g => (held_any (h1.up g.h)).mono fun e w'' h => ⟨h.1, ⟨w'', g.h.trans (h.2.mono g.h.size)⟩, rfl⟩
      have q2 := h1.q2
      have lQ := h1.ltQ
      have hcl := cntF_le qUsed t.F d.n
      clear h1 ho hs hc hl hby S1 E1 q0 HF HPK
      go_upto_region 8 with (fail)
      refine wp_region_up (by kernel_rfl) (by kernel_rfl) ?_
      repeat (go_big_quiet_step (first | (go_at_call 19; exact HH.out _)))
      refine wpQuiet_nil ?_
      rintro _ ⟨g, rfl⟩
      have HS2 := Lib.hid (S.out.up (g.h.mono (Nat.le_refl _)))
      have HBY2 := Lib.hid (HBY.out.off (S := fun _ => False) hz1 (Off.of_below g.h) (fun e => e))
      clear HH q2 lQ S HBY
      generalize g.world = W at *
      have q0 := HS2.out.at_.q0
      go_upto_if 51 with (fail)
      generalize hbd : ((cntF qUsed t.F d.n : Int) == (d.n : Int)) = bd
      have HBD := Lib.hid hbd
      clear hbd
      go_cut [13] from 52 to 65 (fun _ V => ∃ t1, Stp M P w V d t t1 ∧ Ev P d.z 1 none9 t t1 ∧ Num t t1 ∧ t1.g id = none ∧ t1.pm id = some x ∧ cntF qUsed t1.F d.n < d.n ∧ ByAt V d.z B c L ∧ ¬ Own d t1 B)
      case first =>
        cases bd with
        | true =>
          have hcc : cntF qUsed t.F d.n = d.n := by have := HBD.out; simp at this; omega
          obtain ⟨r, i, hr, hgi, hsw⟩ := vic_full HI.out H.out.pool.hand hcc
          have hii : i ≠ id := fun e => by rw [e, HG.out] at hgi; cases hgi
          obtain ⟨y, hy, _⟩ := HI.out.res i r hgi
          obtain ⟨y1, y2, _⟩ := HI.out.ids i y hy
          have HV : Hid (Calls Try.prog 33 #[.pointer (some ⟨d.Pb, 0, none⟩)] W fun e w' => e = .returned (.tuple #[.int .i64 (r : Nat), .bool true]) ∧ Below W.heap.size W w') := Lib.hid ((Victim_any HS2.out.at_.pool HI.out.kv).mono fun e w' h => ⟨by rw [h.1]; show Ending.returned (vicV (sw d.n (2 * d.n + 1) t.h t.F).1) = _; rw [hsw]; unfold vicV; simp, h.2⟩)
          have HIG := Lib.hid (show i ≠ id ∧ t.g i = some r from ⟨hii, hgi⟩)
          have HCC := Lib.hid hcc
          clear hsw hgi hii hy hcc
          go_wp2_with fail
          refine HV.out.mono ?_
          rintro e w2 ⟨rfl, hb⟩
          have HS3 := Lib.hid (HS2.out.up hb)
          have HBY3 := Lib.hid (HBY2.out.off (S := fun _ => False) hz1 (Off.of_below hb) (fun e => e))
          have q0' := HS3.out.at_.q0
          have HOU := Lib.hid (out_any (id := i) hK hmi HS3.out.at_ HS3.out.inv HIG.out.2 (by
            show t.hole ≠ some i
            rcases HHO.out with e | ⟨e, _⟩
            · rw [e]; simp
            · rw [e]; intro e2; exact HIG.out.1 (Option.some.inj e2).symm) (by omega) HRD1.out)
          clear hb HV q0 HS2 HBY2
          go_wp2_with fail
          refine HOU.out.mono ?_
          rintro e w3 ⟨t2, er, rfl, u1, u2, u3, ⟨rfl, u4, u5, u6⟩ | ⟨rfl, u4, u5, u6, u7⟩⟩
          · have hX := HX.out
            have hne := HIG.out
            have HU : Hid (∃ t1, Stp M P w w3 d t t1 ∧ Ev P d.z 1 none9 t t1 ∧ Num t t1 ∧ t1.g id = none ∧ t1.pm id = some x ∧ cntF qUsed t1.F d.n < d.n ∧ ByAt w3 d.z B c L ∧ ¬ Own d t1 B) := by
              have hnB : ¬ Own d t B := fun e => by have := H.out.ltO e; omega
              refine Lib.hid ⟨t2, HS3.out.trans u1, (E.out.trans u2).more hK (by omega), (num_sink s1).trans u3, ?_, (u6 id hne.1.symm).trans hX, ?_, HBY3.out.off hz1 u1.off hnB, fun e => ?_⟩
              · rw [u4]
                unfold upd
                rw [if_neg hne.1.symm]
                exact HG.out
              · have e1 := HCC.out
                have e2 : cntF qUsed t2.F d.n + 1 = cntF qUsed t.F d.n := u5
                omega
              · rcases u1.own B e with e | e
                · exact hnB e
                · have := HBY3.out.lt hz1; omega
            clear u1 u2 u3 u4 u5 u6 hX hne HOU HS3 HBY3 q0' hcl hr y1 y2
            go_wp2_with fail
            go_meet
            exact HU.out
          · have he0 := P.ez0
            have HU : Hid (BrPost (M := M) P w d t id x (.returned (.int .i64 P.ez)) w3) := by
              refine Lib.hid ⟨t2, P.ez, rfl, HS3.out.trans u1, (E.out.trans u2).more hK (by omega), (num_sink s1).trans u3, .inr (.inl ⟨rfl, ?_, ?_⟩)⟩
              · rw [← HRM.out]; exact u4
              · rw [u6]; exact HG.out
            clear u1 u2 u3 u4 u5 u6 u7 HOU HS3 HBY3 q0' hcl hr y1 y2
            go_wp2
            go_ret
            exact HU.out
        | false =>
          have hcc : ¬ cntF qUsed t.F d.n = d.n := by have := HBD.out; simp at this; omega
          have HU : Hid (∃ t1, Stp M P w W d t t1 ∧ Ev P d.z 1 none9 t t1 ∧ Num t t1 ∧ t1.g id = none ∧ t1.pm id = some x ∧ cntF qUsed t1.F d.n < d.n ∧ ByAt W d.z B c L ∧ ¬ Own d t1 B) := by
            have hnB : ¬ Own d t B := fun e => by have := H.out.ltO e; omega
            exact Lib.hid ⟨{ t with s := s1 }, HS2.out, E.out.more hK (by omega), ⟨rfl, rfl, rfl⟩, HG.out, HX.out, by show cntF qUsed t.F d.n < d.n; omega, HBY2.out, hnB⟩
          have HCC := Lib.hid hcc
          clear hcc hcl q0 HS2 HBY2
          go_wp2_with fail
          go_meet
          exact HU.out
      case rest =>
        obtain ⟨t1, S1, E1, N1, hg1, hx1, hc1, hby1, hB1⟩ := hcut
        obtain ⟨j, hj, hno, htk, hkv, _⟩ := take_room S1.inv.kv S1.at_.pool.hand hg1 hc1
        have HTK := Lib.hid (Take_any S1.at_.pool (int_wf hid))
        have HR := Lib.hid htk
        have HS1 := Lib.hid S1
        have HE1 := Lib.hid E1
        have HN1 := Lib.hid N1
        have HG1 := Lib.hid hg1
        have HX1 := Lib.hid hx1
        have HBY1 := Lib.hid hby1
        have HB1 := Lib.hid hB1
        have HNO := Lib.hid hno
        have HKV := Lib.hid hkv
        have q0 := S1.at_.q0
        clear S1 E1 N1 hg1 hx1 hc1 hby1 hB1 hno htk hkv HS2 HBY2 hcl
        go_wp2_with fail
        refine HTK.out.mono ?_
        rintro e w5 ⟨he, ⟨c5, hp5⟩, ho5⟩
        unfold TakeR.val Fr.val at he
        rw [HR.out.frame, HR.out.out, HR.out.given, HR.out.e] at he
        unfold Fr.zero at he
        subst he
        have HP5 := Lib.hid (hp5.congr HR.out.F HR.out.h HR.out.g)
        have HO5 := Lib.hid ho5
        clear hp5 ho5 HTK q0
        go_upto_region 16 with (fail)
        refine wp_forget (fun V => Below w5.heap.size w5 V) (by go_grown) ?_
        intro V hb5
        obtain ⟨t2, S2, E2, N2, hx2, hg2, hu2⟩ := br_take hK HS1.out hB HX1.out HG1.out HBB.out (E1c HE1.out HX.out HX1.out HC.out) HBY1.out HB1.out hj HNO.out HKV.out HP5.out HO5.out hb5
        have h3 := (HS1.out.at_.setPool HO5.out HP5.out).up hb5
        have c0 := (h3.pg id x HX1.out).c0
        have f0 := (h3.pg id x HX1.out).fz 0
        have q0 := S2.at_.q0
        have HT := Lib.hid (Touch_yes S2.at_.pool j write hj hu2)
        have HS2' := Lib.hid S2
        have HE2 := Lib.hid E2
        have HN2 := Lib.hid N2
        have HX2 := Lib.hid hx2
        have HG2 := Lib.hid hg2
        clear S2 E2 N2 hx2 hg2 hu2 hb5 h3
        go_wp2_with fail
        refine HT.out.mono ?_
        rintro e w6 ⟨rfl, ⟨c6, hp6⟩, ho6⟩
        have HE := Lib.hid (stp_touch (f := { t2.F j with ref := true, dirty := (t2.F j).dirty || write }) HS2'.out.inv HS2'.out.at_ rfl rfl rfl hp6 ho6)
        clear hp6 ho6 HT c0 f0 q0
        go_wp2
        go_ret
        exact ⟨_, 0, rfl, HS2'.out.trans HE.out, ((HE1.out.trans HE2.out).trans ev_touch).more hK (by omega), (HN1.out.trans HN2.out).trans ⟨rfl, rfl, rfl⟩, .inl ⟨rfl, ⟨B, c, L, HX2.out, HC.out, HL.out⟩, j, HG2.out⟩⟩
end
end Go.Proofs.Ytmipngefpedfpaa
