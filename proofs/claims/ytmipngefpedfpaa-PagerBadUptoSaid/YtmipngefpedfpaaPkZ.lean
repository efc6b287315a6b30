/- A pager: Write, walked. -/
import Derived.Test.YtmipngefpedfpaaPjZ
namespace Go.Proofs.Ytmipngefpedfpaa
open Go.RowKit Go.Maps
set_option linter.unusedVariables false
set_option linter.unusedSimpArgs false

def WrPost {σ : Type} {K : SnkF σ} {M : Snk K} (P : PSnk K) (w : World) (d : PD) (t : PSt σ) (id off : Int) (b : Bytes) (e : Ending) (w' : World) : Prop :=
  ∃ t' er, e = .returned (.int .i64 er) ∧ Stp M P w w' d t t' ∧ Num t t' ∧
    ((er = 0 ∧ Ev P d.z 1 (· = id) t t' ∧ inB d.z off b.length = true ∧ ∃ x x' L, t.pm id = some x ∧ cont (P.rd t.s) d.z x = some L ∧ L.length = d.z ∧ t'.pm id = some x' ∧ x'.X = x.X ∧ x'.uses = x.uses ∧ cont (P.rd t'.s) d.z x' = some (setB L off.toNat b)) ∨
     (Ev P d.z 1 none9 t t' ∧ ((er = 2 ∧ t.pm id = none) ∨ (er = 1 ∧ inB d.z off b.length = false ∧ t.pm id ≠ none) ∨ (inB d.z off b.length = true ∧ ∃ x, t.pm id = some x ∧ ((er = P.ez ∧ P.room t.s = 0) ∨ (er = 20 ∧ cont (P.rd t.s) d.z x = none))))))
section
variable {σ : Type} {K : SnkF σ} {P : PSnk K} {t t1 t2 : PSt σ} {z k1 k2 : Nat} {E : Int → Prop}
/-- A step behind which all pages are as they were. -/
theorem Ev.trans' (h : Ev P z k1 E t t1) (g : Ev P z k2 none9 t1 t2) (hs : t2.s = t1.s) : Ev P z (k1 + k2) E t t2 := by
  refine ⟨fun i he hi => g.no i id (h.no i he hi), fun i x he hx => ?_, h.sub.trans g.sub, by have := h.cnt; have := g.cnt; omega, fun hp => ?_, fun hr => g.room (h.room hr), fun n hn => g.rdy n (h.rdy _ (by rw [show n + k2 + k1 = n + (k1 + k2) by omega]; exact hn))⟩
  · obtain ⟨x1, e1, e2, e3, e4, e5, e6⟩ := h.pg i x he hx
    obtain ⟨x2, f1, f2, f3, f4, f5, f6⟩ := g.pg i x1 id e1
    exact ⟨x2, f1, f2.trans e2, f3.trans e3, f4.trans e4, fun hp => ⟨(f5 (e5 hp).1).1, (f5 (e5 hp).1).2.trans (e5 hp).2⟩, fun L hL => f6 L (e6 L hL)⟩
  · rw [hs, h.keep hp]
end
section
variable {σ : Type} {K : SnkF σ} {M : Snk K} {P : PSnk K} {w w' w1 w2 w3 w4 w5 : World} {d : PD} {t t' t1 t2 : PSt σ} {id : Int} {x : Pg} {j : Nat}
/-- Other bytes are laid into a page that is in memory. -/
theorem wr_done (hK : K.Good) (hi : PI P d t1) (h1 : PgrAt M w1 d t1) {B c : Nat} {L L' : Bytes} (hx : t1.pm id = some { x with bb := some (B, c, L) }) (hby : ByAt w2 d.z B c L') (ho : Off (· = B) w1 w2) :
    Stp M P w1 ((w2.setCell ⟨x.X, 3, none⟩ (.bool false)).setCell ⟨x.X, 4, none⟩ (.bool false)) d t1 { t1 with pm := updP t1.pm id (some { x with bb := some (B, c, L'), put := false, zero := false }) } ∧
      Ev P d.z 0 (· = id) t1 { t1 with pm := updP t1.pm id (some { x with bb := some (B, c, L'), put := false, zero := false }) } := by
  obtain ⟨hz, _⟩ := h1.zs
  have hpg := h1.pg id _ hx
  have hXB : B ≠ x.X := hpg.self hz rfl
  have hpg2 : PgAt w2 d.z { x with bb := some (B, c, L') } := by
    have hX : x.X < w1.heap.size := hpg.lt
    have hne : ¬ x.X = B := fun e => hXB e.symm
    have hl : L'.length = L.length := by rw [hby.len, (hpg.bs B c L rfl).len]
    exact ⟨((ho.cell (p := ⟨x.X, 0, none⟩) hX hne).trans hpg.c0).trans (by unfold Pg.bv; simp only; rw [hl]), (ho.cell (p := ⟨x.X, 1, none⟩) hX hne).trans hpg.c1, (ho.cell (p := ⟨x.X, 2, none⟩) hX hne).trans hpg.c2, (ho.cell (p := ⟨x.X, 3, none⟩) hX hne).trans hpg.c3, (ho.cell (p := ⟨x.X, 4, none⟩) hX hne).trans hpg.c4, (ho.cell (p := ⟨x.X, 5, none⟩) hX hne).trans hpg.c5,
      fun k => (ho.frozen (p := ⟨x.X, k, none⟩) hX hne).trans (hpg.fz k), fun B' c' L'' e => by cases e; exact hby⟩
  have hp3 := hpg2.set (k := 3) (v := .bool false) (x' := { x with bb := some (B, c, L'), put := false }) rfl rfl rfl rfl rfl rfl rfl (fun B c L e => hpg2.bsX hz e)
  have hp4 := hp3.set (k := 4) (v := .bool false) (x' := { x with bb := some (B, c, L'), put := false, zero := false }) rfl rfl rfl rfl rfl rfl rfl (fun B c L e => hp3.bsX hz e)
  have hoX : Off ({ x with bb := some (B, c, L) } : Pg).blk w1 ((w2.setCell ⟨x.X, 3, none⟩ (.bool false)).setCell ⟨x.X, 4, none⟩ (.bool false)) :=
    ((ho.mono (S' := ({ x with bb := some (B, c, L) } : Pg).blk) (fun k e => Or.inr ⟨c, L, by rw [e]⟩)).setCell (p := ⟨x.X, 3, none⟩) (.inl rfl) _).setCell (p := ⟨x.X, 4, none⟩) (.inl rfl) _
  have h4 := h1.setPage (id := id) (x' := { x with bb := some (B, c, L'), put := false, zero := false }) hx rfl (fun k hk => by
    rcases hk with e | ⟨c1, L1, e⟩
    · exact .inl (.inl e)
    · cases e; exact .inl (.inr ⟨c, L, rfl⟩)) hoX hp4
  have hpm : ∀ i y, updP t1.pm id (some { x with bb := some (B, c, L'), put := false, zero := false }) i = some y → (i = id ∧ y = { x with bb := some (B, c, L'), put := false, zero := false }) ∨ (i ≠ id ∧ t1.pm i = some y) := fun i y e => by
    unfold updP at e
    split at e
    · rename_i h; exact .inl ⟨h, (Option.some.inj e).symm⟩
    · rename_i h; exact .inr ⟨h, e⟩
  refine ⟨⟨h4, ?_, ?_, ?_⟩, ?_⟩
  · refine ⟨hi.inn, hi.kv, hi.pz, fun i k hik => ?_, fun i y hy hbb => ?_, fun i y hy hpp => ?_, fun i y B c L hy hzz hbb => ?_, fun i y hy h1 h2 => ?_, fun i y hy => ?_, hi.hol, hi.nx1⟩
    · obtain ⟨y, f1, f2⟩ := hi.res i k hik
      by_cases hid : i = id
      · rw [hid]; exact ⟨_, updP_same _ _ _, by simp⟩
      · exact ⟨y, (updP_ne _ _ hid).trans f1, f2⟩
    · rcases hpm i y hy with ⟨rfl, rfl⟩ | ⟨e, f⟩
      · exact hi.has i _ hx (by simp)
      · exact hi.has i y f hbb
    · rcases hpm i y hy with ⟨rfl, rfl⟩ | ⟨e, f⟩
      · cases hpp
      · exact hi.put i y f hpp
    · rcases hpm i y hy with ⟨rfl, rfl⟩ | ⟨e, f⟩
      · cases hzz
      · exact hi.zer i y B c L f hzz hbb
    · rcases hpm i y hy with ⟨rfl, rfl⟩ | ⟨e, f⟩
      · simp
      · exact hi.dty i y f h1 h2
    · rcases hpm i y hy with ⟨rfl, rfl⟩ | ⟨e, f⟩
      · exact hi.ids i _ hx
      · exact hi.ids i y f
  · exact hoX.mono fun k hk => .inl (.inr (.inr (.inr (.inr (.inr ⟨id, _, hx, hk⟩)))))
  · intro k hk
    rcases hk with hk | hk
    · rcases own_upd hx hk with e | e
      · exact .inl (.inl e)
      · refine .inl (.inl (.inr (.inr (.inr (.inr (.inr ⟨id, _, hx, ?_⟩))))))
        rcases e with e | ⟨c1, L1, e⟩
        · exact .inl e
        · cases e; exact .inr ⟨c, L, rfl⟩
    · exact .inl (.inr hk)
  · exact ⟨fun i he hn => (updP_ne _ _ he).trans hn, fun i y he hy => ⟨y, (updP_ne _ _ he).trans hy, rfl, rfl, rfl, fun h => ⟨h, rfl⟩, fun L hL => hL⟩, SubR.refl _, Nat.le_refl _, fun _ => rfl, fun h => h, fun n h => h⟩
theorem wr_no (hK : K.Good) (h : PgrAt M w d t) (hi : PI P d t) {off er : Int} {b : Bytes} (hc : (er = 2 ∧ t.pm id = none) ∨ (er = 1 ∧ inB d.z off b.length = false ∧ t.pm id ≠ none)) : WrPost (M := M) P w d t id off b (.returned (.int .i64 er)) w :=
  ⟨t, er, rfl, Stp.refl h hi, Num.refl t, .inr ⟨Ev.refl hK t, hc.elim .inl (fun h => .inr (.inl h))⟩⟩
theorem wr_same {off : Nat} {b : Bytes} {B c : Nat} {L : Bytes} (S : Stp M P w w1 d t t1) (E : Ev P d.z 1 none9 t t1) (N : Num t t1) (hb : inB d.z (off : Int) b.length = true) (hx : t.pm id = some x) (hc : cont (P.rd t.s) d.z x = some L) (hl : L.length = d.z) (hx1 : t1.pm id = some { x with bb := some (B, c, L) }) (he : setB L off b = L) :
    WrPost (M := M) P w d t id (off : Int) b (.returned (.int .i64 0)) w1 :=
  ⟨t1, 0, rfl, S, N, .inl ⟨rfl, E.wide (fun _ e => e.elim), hb, x, _, L, hx, hc, hl, hx1, rfl, rfl, by show cont _ _ _ = some (setB L off b); rw [he]; rfl⟩⟩
set_option maxRecDepth 100000 in
set_option maxHeartbeats 4000000 in
theorem write_any (hK : K.Good) (hmi : P.Miss) (h : PgrAt M w d t) (hi : PI P d t) (h0 : t.hole = none) (hid : -9223372036854775808 ≤ id ∧ id ≤ 9223372036854775807) (hnx : t.nx < 9223372036854775807) (hrd : K.Rdy t.s 1) (off : Int) {A : Option Addr} {n cb : Nat} {b : Bytes} (hS : SBy w A n b) (hn : n ≤ 2 ^ 40) (hV : VIn (fun k => ¬ Own d t k) (.slice A n cb)) :
    Calls Try.prog 12 #[.pointer (some ⟨d.Q, 0, none⟩), .int .i64 id, .int .i64 off, .slice A n cb] w (WrPost (M := M) P w d t id off b) := by
  have hlk := h.look hid
  rw [vis_none h0] at hlk
  have HW := Lib.hid (within_any h off (n : Int))
  have H := Lib.hid h
  have HI := Lib.hid hi
  have H0 := Lib.hid h0
  have HS := Lib.hid hS
  have HV := Lib.hid hV
  have HBL := Lib.hid hS.1
  obtain ⟨hz1, hz2⟩ := h.zs
  have q4 := h.q4
  cases hx : t.pm id with
  | none =>
    rw [hx] at hlk
    have HX := Lib.hid hx
    simp only [pgP, Option.map_none] at hlk
    clear h hi h0 hx hS hV
    go_enter Try.func12, Try.ntmps12
    go_wp2
    go_ret
    exact wr_no hK H.out HI.out (.inl ⟨rfl, HX.out⟩)
  | some x =>
    rw [hx] at hlk
    have HX := Lib.hid hx
    simp only [pgP, Option.map_some] at hlk
    have HBR := Lib.hid (bring_any hK hmi h hi hx (.inl h0) hid hnx hrd false)
    cases hb : inB d.z off (n : Int) with
    | false =>
      rw [hb] at HW
      have HB : Hid (inB d.z off b.length = false) := Lib.hid (by rw [HBL.out]; exact hb)
      clear h hi h0 hx hb HBR hS hV
      go_enter Try.func12, Try.ntmps12
      go_wp2_with fail
      refine HW.out.mono ?_
      rintro e w1 ⟨rfl, rfl⟩
      go_wp2
      go_ret
      exact wr_no hK H.out HI.out (.inr ⟨rfl, HB.out, by rw [HX.out]; simp⟩)
    | true =>
      rw [hb] at HW
      have HB : Hid (inB d.z off b.length = true) := Lib.hid (by rw [HBL.out]; exact hb)
      obtain ⟨o1, _, o3⟩ := inB_iff.1 hb
      clear h hi h0 hx hb hS hV
      go_enter Try.func12, Try.ntmps12
      go_wp2_with fail
      refine HW.out.mono ?_
      rintro e w1 ⟨rfl, rfl⟩
      go_wp2_with fail
      refine HBR.out.mono ?_
      rintro e w1 ⟨t1, er, rfl, S1, E1, N1, hcs⟩
      have S := Lib.hid S1
      have E := Lib.hid E1
      have N := Lib.hid N1
      clear S1 E1 N1 hlk q4 HW HBR
      rcases hcs with ⟨rfl, ⟨B, c, L, hx1, hc, hl⟩, j, hg⟩ | hcs
      · obtain ⟨off, rfl⟩ := Int.eq_ofNat_of_zero_le o1
        have HC := Lib.hid hc
        have HL := Lib.hid hl
        have HX1 := Lib.hid hx1
        have HG := Lib.hid hg
        have hpg := S.out.at_.pg id _ hx1
        have hby := hpg.bs B c L rfl
        have p0 := hpg.c0
        have p3 := hpg.c3
        have p4 := hpg.c4
        have f3 := hpg.fz 3
        have f4 := hpg.fz 4
        unfold Pg.bv at p0
        simp only [hl] at p0 p3 p4 f3 f4
        have hcap := hby.cap
        have HBY := Lib.hid hby
        have hon : off + n ≤ d.z := by omega
        have hS1 : SBy w1 A n b := by
          have hsl : SlB w (.slice A n n) b := ⟨A, n, n, rfl, Nat.le_refl _, HS.out⟩
          obtain ⟨A', n', c', e, _, h2⟩ := hsl.offP S.out.off (fun b' o n' c' e hp => by cases e; exact HV.out b' o _ cb rfl hp)
          cases e
          exact h2
        have HS1 := Lib.hid hS1
        clear hc hl hx1 hg hpg hby o1 o3 hS1 HS
        by_cases hcz : off = c
        · subst hcz
          obtain rfl : n = 0 := by omega
          have hb0 : b = [] := by have := HBL.out; simpa using this
          have HEQ : Hid (Calls Try.prog 30 #[.slice (some ⟨B, 0, none⟩) 0 0, .slice A 0 cb] w1 fun e w' => e = .returned (.bool true) ∧ w1 = w') := Lib.hid ((equal_any w1 (some ⟨B, 0, none⟩) A 0 0 0 cb [] [] (SBy.nil _ _) (SBy.nil _ _)).mono fun e w' h => ⟨h.1.trans (by simp), h.2.symm⟩)
          go_wp2_with fail
          refine HEQ.out.mono ?_
          rintro e w2 ⟨rfl, rfl⟩
          have HE : Hid (WrPost (M := M) P w d t id (off : Int) b (.returned (.int .i64 0)) w1) := Lib.hid (wr_same S.out E.out N.out HB.out HX.out HC.out HL.out HX1.out (by simp [setB, hb0]))
          clear hb0 p0 p3 p4 f3 f4 HEQ
          go_wp2
          go_ret
          exact HE.out
        · have HEQ : Hid (Calls Try.prog 30 #[.slice (some ⟨B, off, none⟩) n (c - off), .slice A n cb] w1 fun e w' => e = .returned (.bool (decide (secP L off n = b))) ∧ w1 = w') := Lib.hid ((equal_any w1 (some ⟨B, off, none⟩) A n (c - off) n cb _ _ (HBY.out.part hon hz1) HS1.out).mono fun e w' h => ⟨h.1, h.2.symm⟩)
          go_wp2_with fail
          refine HEQ.out.mono ?_
          rintro e w2 ⟨rfl, rfl⟩
          by_cases he : secP L off n = b
          · rw [decide_eq_true he]
            have HE : Hid (WrPost (M := M) P w d t id (off : Int) b (.returned (.int .i64 0)) w1) := Lib.hid (wr_same S.out E.out N.out HB.out HX.out HC.out HL.out HX1.out (setB_same (by rw [HL.out, HBL.out]; exact hon) (by rw [HBL.out]; exact he)))
            clear he p0 p3 p4 f3 f4 HEQ
            go_wp2
            go_ret
            exact HE.out
          · rw [decide_eq_false he]
            clear he HEQ
            go_upto_region 12 with (with_reducible refine wpList_copy_by rfl (.tmp 53) (.tmp 54) rfl rfl rfl HBY.out hz1 HS1.out hon rfl (fun _ => rfl) ?_; intro w2 hby2 ho2)
            obtain ⟨S2, E2⟩ := wr_done hK S.out.inv S.out.at_ HX1.out hby2 ho2
            have hX := (S.out.at_.pg id _ HX1.out).lt
            have hXB : ¬ x.X = B := fun e => (S.out.at_.pg id _ HX1.out).self hz1 rfl e.symm
            have p3' := (ho2.cell (p := ⟨x.X, 3, none⟩) hX hXB).trans p3
            have p4' := (ho2.cell (p := ⟨x.X, 4, none⟩) hX hXB).trans p4
            have f3' := (ho2.frozen (p := ⟨x.X, 3, none⟩) hX hXB).trans f3
            have f4' := (ho2.frozen (p := ⟨x.X, 4, none⟩) hX hXB).trans f4
            have S2' := Lib.hid S2
            have E2' := Lib.hid E2
            clear S2 E2 hby2 ho2 p0 p3 p4 f3 f4 hX
            go_upto_region 13 with (fail)
            refine wp_forget (fun V => Stp M P w1 V d t1 { t1 with pm := updP t1.pm id (some { x with bb := some (B, c, setB L off b), put := false, zero := false }) }) S2'.out ?_
            intro V S3
            have HS3 := Lib.hid S3
            have q0 := S3.at_.q0
            have HF := Lib.hid (Find_any S3.at_.pool (int_wf hid))
            unfold findV findI at HF
            rw [show ({ t1 with pm := updP t1.pm id (some { x with bb := some (B, c, setB L off b), put := false, zero := false }) } : PSt σ).g id = some j from HG.out] at HF
            simp only [Option.isSome_some] at HF
            obtain ⟨hj, hu, hkey⟩ := pi_key S3.inv (show ({ t1 with pm := updP t1.pm id (some { x with bb := some (B, c, setB L off b), put := false, zero := false }) } : PSt σ).g id = some j from HG.out)
            have HT := Lib.hid (Touch_yes S3.at_.pool j true hj hu)
            clear S3 S2' p3' p4' f3' f4' hXB hu hkey
            go_wp2_with fail
            refine HF.out.mono ?_
            rintro e w3 ⟨rfl, rfl⟩
            go_wp2_with fail
            refine HT.out.mono ?_
            rintro e w4 ⟨rfl, ⟨c5, hp5⟩, ho5⟩
            have HE := Lib.hid (stp_touch (f := { t1.F j with ref := true, dirty := (t1.F j).dirty || true }) HS3.out.inv HS3.out.at_ rfl rfl rfl hp5 ho5)
            clear hp5 ho5 HT HF q0
            go_wp2
            go_ret
            have HEV := Ev.more (k2 := 1) hK (Ev.trans' (k1 := 1 + 0) (k2 := 0) (E.out.trans E2'.out) (ev_touch (F' := putF t1.F j { t1.F j with ref := true, dirty := (t1.F j).dirty || true }) (c' := c5)) rfl) (by omega)
            exact ⟨_, 0, rfl, (S.out.trans HS3.out).trans HE.out, N.out.trans ⟨rfl, rfl, rfl⟩, .inl ⟨rfl, HEV, HB.out, x, { x with bb := some (B, c, setB L off b), put := false, zero := false }, L, HX.out, HC.out, HL.out, updP_same _ _ _, rfl, rfl, rfl⟩⟩
      · rcases hcs with ⟨rfl, hr, _⟩ | ⟨rfl, hr, _⟩
        · have HR := Lib.hid hr
          have he0 := P.ez0
          clear hr
          go_wp2
          go_ret
          exact ⟨t1, P.ez, rfl, S.out, N.out, .inr ⟨E.out, .inr (.inr ⟨HB.out, x, HX.out, .inl ⟨rfl, HR.out⟩⟩)⟩⟩
        · have HR := Lib.hid hr
          clear hr
          go_wp2
          go_ret
          exact ⟨t1, 20, rfl, S.out, N.out, .inr ⟨E.out, .inr (.inr ⟨HB.out, x, HX.out, .inr ⟨rfl, HR.out⟩⟩)⟩⟩
end
end Go.Proofs.Ytmipngefpedfpaa
