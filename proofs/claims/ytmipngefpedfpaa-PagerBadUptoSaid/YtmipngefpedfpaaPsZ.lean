/- A pager: Save, Evict. -/
import Derived.Test.YtmipngefpedfpaaPrZ
namespace Go.Proofs.Ytmipngefpedfpaa
open Go.RowKit Go.Maps
set_option linter.unusedVariables false
set_option linter.unusedSimpArgs false

section
variable {σ : Type} {K : SnkF σ} {M : Snk K} {P : PSnk K} {w w' w1 w2 w3 w4 w5 : World} {d : PD} {t t' t1 t2 : PSt σ} {id : Int} {x y : Pg} {j : Nat} {z k1 k2 : Nat} {E : Int → Prop}
theorem ev_same (h : Ev P z k1 E t t1) (hp : t2.pm = t1.pm) (hs : t2.s = t1.s) : Ev P z k1 E t t2 :=
  ⟨fun i he hi => by rw [hp]; exact h.no i he hi, fun i y he hy => by rw [hp, hs]; exact h.pg i y he hy, by rw [hs]; exact h.sub, by rw [hs]; exact h.cnt, fun hk => by rw [hs]; exact h.keep hk, fun hr => by rw [hs]; exact h.room hr, fun n hn => by rw [hs]; exact h.rdy n hn⟩
/-- A box of the call's own has been stored to. -/
theorem sa_done {g : Nat} {v0 v1 : Value} (S : Stp M P w w1 d t t1) (S2 : Stp M P w1 w2 d t1 t2) (hg : ¬ Own d t1 g) (hw : w.heap.size ≤ g) (hl : g < w1.heap.size) : Stp M P w ((w2.setCell ⟨g, 0, none⟩ v0).setCell ⟨g, 1, none⟩ v1) d t t2 := by
  have S3 := S.trans S2
  have hg2 : ¬ Own d t2 g := fun e => by
    rcases S2.own g e with e | e
    · exact hg e
    · omega
  have ho : Off (· = g) w2 ((w2.setCell ⟨g, 0, none⟩ v0).setCell ⟨g, 1, none⟩ v1) := ((Off.refl (· = g) w2).setCell (p := ⟨g, 0, none⟩) rfl v0).setCell (p := ⟨g, 1, none⟩) rfl v1
  refine ⟨?_, S3.inv, S3.off.late ho (fun i hi e => by omega), S3.own⟩
  exact S3.at_.off ho (fun k hk e => hg2 (by rw [← e]; exact .inl hk)) (M.off S3.at_.at_ ho (fun k e hk => hg2 (by rw [← e]; exact .inr hk))) (fun _ => .inl)
set_option maxRecDepth 100000 in
set_option maxHeartbeats 4000000 in
theorem savep_any (hK : K.Good) (hmi : P.Miss) (h : PgrAt M w d t) (hi : PI P d t) (h0 : t.hole = none) (hid : -9223372036854775808 ≤ id ∧ id ≤ 9223372036854775807) (hrd : K.Rdy t.s 1) :
    Calls Try.prog 16 #[.pointer (some ⟨d.Q, 0, none⟩), .int .i64 id] w (SaPost M P w d t id) := by
  have hb : Below w.heap.size w (w.alloc (.cells #[.int .i64 0, .int .i64 0] 40)) := (Below.refl _ _).alloc (Nat.le_refl _) _
  have h1 := h.up hb
  have hlk := h1.look hid
  rw [vis_none h0] at hlk
  have q4 := h.q4
  have lQ := h.ltQ
  have hbx := BoxA.new w 40 (0, 0)
  cases hx : t.pm id with
  | none =>
    rw [hx] at hlk
    simp only [pgP, Option.map_none] at hlk
    have HG : Hid (∀ W, Below w.heap.size w W → SaPost M P w d t id (.returned (.tuple #[.agg #[.int .i64 0, .int .i64 0], .int .i64 2])) W) := Lib.hid fun W hb => ⟨t, (0, 0), 2, rfl, Stp.below h hi hb, Ev.refl hK t, Num.refl t, .inl ⟨rfl, hx⟩⟩
    clear h hx hb h0 hi h1 hrd
    go_enter Try.func16, Try.ntmps16
    go_wp2
    refine bodyPost_ret (results_addr rfl _ _ _ _ _ rfl hbx.1 hbx.2.1) rfl ?_
    exact HG.out _ (by go_grown)
  | some x =>
    rw [hx] at hlk
    simp only [pgP, Option.map_some] at hlk
    have HSV := Lib.hid (save_any hK hmi h1 hi hx hrd)
    have hnO : ¬ Own d t w.heap.size := fun e => by have := h.ltO e; omega
    have HB := Lib.hid (Stp.below h hi hb)
    have HX := Lib.hid hx
    have HBX := Lib.hid hbx
    have HNO := Lib.hid hnO
    have b0 := hbx.1
    have b1 := hbx.2.1
    have hbl := hbx.lt
    clear h hx hb h0 hi h1 hrd hnO hbx
    go_enter Try.func16, Try.ntmps16
    go_wp2_with fail
    refine HSV.out.mono ?_
    rintro e w1 ⟨t1, er, rfl, S1, E1, N1, eF, eg, eh, ⟨rfl, a, e4, e5, e6⟩ | ⟨rfl, e4, e5⟩⟩
    · have S := Lib.hid (HB.out.trans S1)
      have E := Lib.hid E1
      have N := Lib.hid N1
      have HX1 : Hid (t1.pm id = some { x with at_ := a, put := true }) := Lib.hid (by rw [e4]; exact updP_same _ _ _)
      have H5 := Lib.hid e5
      have H6 := Lib.hid (fun hp => (e6 hp).2)
      have HBX1 := Lib.hid (HBX.out.off S1.off HNO.out)
      have q0 := S1.at_.q0
      have hF := Find_any S1.at_.pool (int_wf hid)
      have hnO1 : ¬ Own d t1 w.heap.size := fun e => by
        rcases S1.own _ e with e | e
        · exact HNO.out e
        · simp at e; omega
      have HNO1 := Lib.hid hnO1
      have HGL := Lib.hid (show w.heap.size < w1.heap.size from HBX1.out.lt)
      have HBR : Hid (∀ t2 W, Stp M P w1 W d t1 t2 → t2.pm = t1.pm → t2.s = t1.s → Num t1 t2 → SaPost M P w d t id (.returned (.tuple #[.agg #[.int .i64 a.1, .int .i64 a.2], .int .i64 0])) ((W.setCell ⟨w.heap.size, 0, none⟩ (.int .i64 a.1)).setCell ⟨w.heap.size, 1, none⟩ (.int .i64 a.2))) := Lib.hid fun t2 W hs hp hss hnum => by
        refine ⟨t2, a, 0, rfl, sa_done S.out hs HNO1.out (Nat.le_refl _) HGL.out, ev_same E.out hp hss, N.out.trans hnum, .inr (.inr ⟨rfl, x, HX.out, by rw [hp]; exact HX1.out, fun L hL => by rw [hss]; exact H5.out L hL, fun hpp => by rw [hss]; exact H6.out hpp⟩)⟩
      clear S1 E1 N1 e4 e5 e6 hlk q4 lQ HSV b0 b1 hnO1 eF eg eh
      cases hg : t1.g id with
      | none =>
        unfold findV findI at hF
        rw [hg] at hF
        simp only [Option.isSome_none] at hF
        have HF := Lib.hid hF
        have p1 := (S.out.at_.pg id _ HX1.out).c1
        have p2 := (S.out.at_.pg id _ HX1.out).c2
        have b0 := HBX1.out.1
        have b1 := HBX1.out.2.1
        have f0 := HBX1.out.2.2 0
        have f1 := HBX1.out.2.2 1
        clear hF hg
        go_wp2_with fail
        refine HF.out.mono ?_
        rintro e w2 ⟨rfl, rfl⟩
        have HFIN := Lib.hid (HBX1.out.set a).1
        clear HBX HBX1
        go_wp2
        refine bodyPost_ret (results_addr rfl _ _ _ _ _ rfl HFIN.out.1 HFIN.out.2.1) rfl ?_
        exact HBR.out t1 w1 (Stp.refl S.out.at_ S.out.inv) rfl rfl (Num.refl _)
      | some j =>
        unfold findV findI at hF
        rw [hg] at hF
        simp only [Option.isSome_some] at hF
        have HF := Lib.hid hF
        obtain ⟨hj, hu, hkey⟩ := pi_key S.out.inv hg
        have HT := Lib.hid (Clean_yes S.out.at_.pool j hj hu)
        clear hF hg hu hkey
        go_wp2_with fail
        refine HF.out.mono ?_
        rintro e w2 ⟨rfl, rfl⟩
        go_wp2_with fail
        refine HT.out.mono ?_
        rintro e w2 ⟨rfl, ⟨c5, hp5⟩, ho5⟩
        have S2 := stp_touch (f := { t1.F j with dirty := false }) S.out.inv S.out.at_ rfl rfl rfl hp5 ho5
        have hbx2 := HBX1.out.off S2.off HNO1.out
        have b0 := hbx2.1
        have b1 := hbx2.2.1
        have f0 := hbx2.2.2 0
        have f1 := hbx2.2.2 1
        have p1 := (S2.at_.pg id _ HX1.out).c1
        have p2 := (S2.at_.pg id _ HX1.out).c2
        have HFIN := Lib.hid (hbx2.set a).1
        have HS2 := Lib.hid S2
        clear S2 hbx2 hp5 ho5 HT HF q0 HBX HBX1
        go_wp2
        refine bodyPost_ret (results_addr rfl _ _ _ _ _ rfl HFIN.out.1 HFIN.out.2.1) rfl ?_
        exact HBR.out _ w2 HS2.out rfl rfl ⟨rfl, rfl, rfl⟩
    · have he0 := P.ez0
      have S := Lib.hid (HB.out.trans S1)
      have E := Lib.hid E1
      have N := Lib.hid N1
      have HR := Lib.hid e4
      have hnO1 : ¬ Own d t1 w.heap.size := fun e => by
        rcases S1.own _ e with e | e
        · exact HNO.out e
        · simp at e; omega
      have HNO1 := Lib.hid hnO1
      have hbx2 := HBX.out.off S1.off HNO.out
      have HGL := Lib.hid (show w.heap.size < w1.heap.size from hbx2.lt)
      have b0' := hbx2.1
      have b1' := hbx2.2.1
      have f0 := hbx2.2.2 0
      have f1 := hbx2.2.2 1
      have HFIN := Lib.hid (hbx2.set (0, 0)).1
      clear S1 E1 N1 e4 e5 hlk q4 lQ HSV b0 b1 hnO1 eF eg eh hbx2 HBX
      go_wp2
      refine bodyPost_ret (results_addr rfl _ _ _ _ _ rfl HFIN.out.1 HFIN.out.2.1) rfl ?_
      exact ⟨t1, (0, 0), P.ez, rfl, sa_done S.out (Stp.refl S.out.at_ S.out.inv) HNO1.out (Nat.le_refl _) HGL.out, E.out, N.out, .inr (.inl ⟨rfl, HR.out, by rw [HX.out]; simp⟩)⟩
end
end Go.Proofs.Ytmipngefpedfpaa
