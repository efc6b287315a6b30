/- A pager: out. -/
import Derived.Test.YtmipngefpedfpaaPeZ
namespace Go.Proofs.Ytmipngefpedfpaa
open Go.RowKit Go.Maps
set_option linter.unusedVariables false
set_option linter.unusedSimpArgs false

theorem zeroPage (w : World) : (zeroValue 72).run Try.prog w = .ok (.pointer none) w := by kernel_rfl
def pgP (x : Option Pg) : Value := .pointer (x.map fun x => ⟨x.X, 0, none⟩)
def OutPost {σ : Type} {K : SnkF σ} {M : Snk K} (P : PSnk K) (w : World) (d : PD) (t : PSt σ) (id : Int) (e : Ending) (w' : World) : Prop :=
  ∃ t' er, e = .returned (.int .i64 er) ∧ Stp M P w w' d t t' ∧ Ev P d.z 1 none9 t t' ∧ Num t t' ∧
    ((er = 0 ∧ t'.g = upd t.g id none ∧ cntF qUsed t'.F d.n + 1 = cntF qUsed t.F d.n ∧ ∀ i, i ≠ id → t'.pm i = t.pm i) ∨ (er = P.ez ∧ P.room t.s = 0 ∧ t'.pm = t.pm ∧ t'.g = t.g ∧ t'.F = t.F))
section
variable {σ : Type} {K : SnkF σ} {M : Snk K} {P : PSnk K} {w w' w1 w2 : World} {d : PD} {t t' t1 t2 : PSt σ} {id : Int} {x : Pg} {j : Nat}
theorem PgrAt.look (h : PgrAt M w d t) {k : Int} (hk : -9223372036854775808 ≤ k ∧ k ≤ 9223372036854775807) :
    (Instr.lookup 68 (.map (some d.Mm)) (.int .i64 k) false).run Try.prog w = .ok (pgP (visP t.pm t.hole k)) w := by
  rw [MapIs.look h.mp intKeyed Try.underlying68 (zeroPage w) (keyOf_int_mk Try.underlying3 (int_wf hk)) false, pgF_at]
  cases visP t.pm t.hole k <;> rfl
theorem pi_key (hi : PI P d t) (hg : t.g id = some j) : j < d.n ∧ (t.F j).used = true ∧ (t.F j).key = id := hi.kv.good.b id j hg
/-- Its frame is let go. -/
theorem out_done (hK : K.Good) (hi : PI P d t1) (h1 : PgrAt M w1 d t1) (hx : t1.pm id = some x) (hg : t1.g id = some j) (hz : x.zero = true ∨ x.put = true) {c' : Nat}
    (hp : PoolAt w2 d.Pb d.B d.Mp d.n (putF t1.F j Fr.zero) t1.h (upd t1.g (t1.F j).key none) c') (ho : Off (PB d.Pb d.B d.Mp) (w1.setCell ⟨x.X, 0, none⟩ (.slice none 0 0)) w2) :
    ∃ t2, Stp M P w1 w2 d t1 t2 ∧ Ev P d.z 0 none9 t1 t2 ∧ Num t1 t2 ∧ t2.g = upd t1.g id none ∧ cntF qUsed t2.F d.n + 1 = cntF qUsed t1.F d.n ∧ ∀ i, i ≠ id → t2.pm i = t1.pm i := by
  obtain ⟨hj, hu, hkey⟩ := pi_key hi hg
  have hpg := h1.pg id x hx
  have ho1 : Off x.blk w1 (w1.setCell ⟨x.X, 0, none⟩ (.slice none 0 0)) := (Off.refl x.blk w1).setCell (p := ⟨x.X, 0, none⟩) (.inl rfl) _
  have hp1 : PgAt (w1.setCell ⟨x.X, 0, none⟩ (.slice none 0 0)) d.z { x with bb := none } := hpg.set (k := 0) (x' := { x with bb := none }) rfl rfl rfl rfl rfl rfl rfl (fun B c L e => by cases e)
  have h2 := h1.setPage (id := id) (x := x) (x' := { x with bb := none }) hx rfl (fun k hk => by
    rcases hk with e | ⟨c, L, e⟩
    · exact .inl (.inl e)
    · cases e) ho1 hp1
  have h3 := h2.setPool ho hp
  rw [hkey] at h3
  obtain ⟨y, e1, e2⟩ := hi.res id j hg
  rw [hx] at e1
  cases e1
  obtain ⟨⟨B, c, L⟩, hb⟩ := Option.ne_none_iff_exists'.1 e2
  have hlen := (hpg.bs B c L hb).len
  have hpm : ∀ i y, updP t1.pm id (some { x with bb := none }) i = some y → (i = id ∧ y = { x with bb := none }) ∨ (i ≠ id ∧ t1.pm i = some y) := fun i y e => by
    unfold updP at e
    split at e
    · rename_i h; exact .inl ⟨h, (Option.some.inj e).symm⟩
    · rename_i h; exact .inr ⟨h, e⟩
  refine ⟨{ t1 with pm := updP t1.pm id (some { x with bb := none }), F := putF t1.F j Fr.zero, g := upd t1.g id none, c := c' }, ⟨h3, ?_, ?_, ?_⟩, ?_, ⟨rfl, rfl, rfl⟩, rfl, ?_, fun i hn => updP_ne _ _ hn⟩
  · refine ⟨hi.inn, ⟨?_, fun i hin => ?_⟩, fun i hin => ?_, fun i k hik => ?_, fun i y hy hbb => ?_, fun i y hy hpp => ?_, fun i y B c L hy hzz hbb => ?_, fun i y hy h1 h2 => ?_, fun i y hy => ?_, hi.hol, hi.nx1⟩
    · have := Good.drop hi.kv.good hj hu
      rw [hkey] at this
      exact this
    · show 0 ≤ (putF t1.F j Fr.zero i).pins ∧ (putF t1.F j Fr.zero i).pins ≤ 1048576
      unfold putF
      split
      · simp [Fr.zero]
      · exact hi.kv.pins i hin
    · show (putF t1.F j Fr.zero i).pins = 0
      unfold putF
      split
      · rfl
      · exact hi.pz i hin
    · have hik' : upd t1.g id none i = some k := hik
      unfold upd at hik'
      split at hik'
      · cases hik'
      · rename_i hne
        obtain ⟨y, f1, f2⟩ := hi.res i k hik'
        exact ⟨y, (updP_ne _ _ hne).trans f1, f2⟩
    · show upd t1.g id none i ≠ none
      rcases hpm i y hy with ⟨rfl, rfl⟩ | ⟨e, f⟩
      · simp at hbb
      · unfold upd
        rw [if_neg e]
        exact hi.has i y f hbb
    · rcases hpm i y hy with ⟨rfl, rfl⟩ | ⟨e, f⟩
      · exact ⟨fun B c L e => (by cases e), fun hzz => (hi.put i x hx hpp).2 hzz⟩
      · exact hi.put i y f hpp
    · rcases hpm i y hy with ⟨rfl, rfl⟩ | ⟨e, f⟩
      · cases hbb
      · exact hi.zer i y B c L f hzz hbb
    · rcases hpm i y hy with ⟨rfl, rfl⟩ | ⟨e, f⟩
      · exfalso
        rcases hz with hz | hz
        · rw [hz] at h2; cases h2
        · rw [hz] at h1; cases h1
      · exact hi.dty i y f h1 h2
    · rcases hpm i y hy with ⟨rfl, rfl⟩ | ⟨e, f⟩
      · exact hi.ids i x hx
      · exact hi.ids i y f
  · refine (ho1.mono fun k hk => Or.inl (.inr (.inr (.inr (.inr (.inr ⟨id, x, hx, hk⟩)))))).trans (ho.mono fun k hk => ?_)
    rcases hk with rfl | rfl | rfl
    · exact .inl (.inr (.inl rfl))
    · exact .inl (.inr (.inr (.inl rfl)))
    · exact .inl (.inr (.inr (.inr (.inl rfl))))
  · intro k hk
    rcases hk with hk | hk
    · rcases own_upd hx hk with e | e
      · exact .inl (.inl e)
      · rcases e with e | ⟨c, L, e⟩
        · exact .inl (.inl (.inr (.inr (.inr (.inr (.inr ⟨id, x, hx, .inl e⟩))))))
        · cases e
    · exact .inl (.inr hk)
  · refine ⟨fun i _ hn => ?_, fun i y _ hy => ?_, SubR.refl _, Nat.le_refl _, fun _ => rfl, fun h => h, fun n h => h⟩
    · exact (updP_ne _ _ (fun e => by rw [e, hx] at hn; cases hn)).trans hn
    · by_cases hid : i = id
      · subst hid
        rw [hx] at hy
        cases hy
        refine ⟨{ x with bb := none }, updP_same _ _ _, rfl, rfl, rfl, fun h => ⟨h, rfl⟩, fun L' hL => ?_⟩
        have hL2 : L = L' := by
          unfold cont at hL
          rw [hb] at hL
          simpa using hL
        subst hL2
        unfold cont
        simp only
        cases hzz : x.zero with
        | true =>
          rw [if_pos rfl, hi.zer i x B c L hx hzz hb]
        | false =>
          have hpp : x.put = true := by
            rcases hz with hz | hz
            · rw [hz] at hzz; cases hzz
            · exact hz
          rw [(hi.put i x hx hpp).1 B c L hb]
          simp [hlen]
      · exact ⟨y, (updP_ne _ _ hid).trans hy, rfl, rfl, rfl, fun h => ⟨h, rfl⟩, fun L hL => hL⟩
  · have e1 := cntF_put (q := qUsed) (F := t1.F) (f := Fr.zero) hj
    have e3 : qUsed (t1.F j) = true := hu
    have e4 : qUsed Fr.zero = false := rfl
    rw [e3, e4] at e1
    simpa using e1
set_option maxRecDepth 100000 in
set_option maxHeartbeats 4000000 in
theorem out_any (hK : K.Good) (hmi : P.Miss) (h : PgrAt M w d t) (hi : PI P d t) (hg : t.g id = some j) (hh : t.hole ≠ some id) (hid : -9223372036854775808 ≤ id ∧ id ≤ 9223372036854775807) (hrd : K.Rdy t.s 1) :
    Calls Try.prog 34 #[.pointer (some ⟨d.Q, 0, none⟩), .int .i64 (j : Nat)] w (OutPost (M := M) P w d t id) := by
  obtain ⟨x, hx, hbb⟩ := hi.res id j hg
  obtain ⟨hj, hu, hkey⟩ := pi_key hi hg
  have HAT := Lib.hid (At_yes h.pool j hj)
  have hlk : ∀ W, Below w.heap.size w W → ∀ g : Up W, (Instr.lookup 68 (.map (some d.Mm)) (.int .i64 id) false).run Try.prog g.world = .ok (.pointer (some ⟨x.X, 0, none⟩)) g.world := fun W hb g => by
    have := (h.up (hb.trans (g.h.mono hb.size))).look hid
    rw [this]
    unfold visP
    rw [if_neg (fun e => hh e.symm), hx]
    rfl
  have HLK := Lib.hid hlk
  have H := Lib.hid h
  have HI := Lib.hid hi
  have HX := Lib.hid hx
  have HJ := Lib.hid (show j < d.n ∧ (t.F j).used = true ∧ (t.F j).key = id from ⟨hj, hu, hkey⟩)
  have HG := Lib.hid hg
  have HRD := Lib.hid hrd
  obtain ⟨hz1, hz2⟩ := h.zs
  have q0 := h.q0
  have lQ := h.ltQ
  clear h hi hx hbb hj hu hkey hlk hg hh hrd
  go_enter Try.func34, Try.ntmps34
  go_wp2_with fail
  refine HAT.out.mono ?_
  rintro e w1 ⟨rfl, hb⟩
  have HB := Lib.hid hb
  unfold Fr.val
  rw [HJ.out.2.2]
  clear hb HAT
  go_upto_region 2 with (fail)
  refine wp_forget (fun V => Below w.heap.size w V ∧ V.cell? ⟨w1.heap.size, 0, none⟩ = some (.int .i64 id)) ⟨HB.out.alloc HB.out.size _, ?_⟩ ?_
  · rw [cell_of_row _ _ _ _ _ _ (heap_alloc_new w1 _)]
    rfl
  rintro V ⟨hb, b0⟩
  have hlk := HLK.out V hb
  have q4 := (H.out.up hb).q4
  have lQ2 := (H.out.up hb).ltQ
  have lb := lt_of_cell b0
  have HB2 := Lib.hid hb
  clear hb HB HLK q0 lQ
  refine wp_region_up (by kernel_rfl) (by kernel_rfl) ?_
  repeat (go_big_quiet_step (fail))
  refine wpQuiet_nil ?_
  rintro _ ⟨g, rfl⟩
  have hB3 := HB2.out.trans (g.h.mono HB2.out.size)
  generalize g.world = W at *
  have h1 := H.out.up hB3
  have HB := Lib.hid hB3
  have H1 := Lib.hid h1
  have p4 := (h1.pg id x HX.out).c4
  clear hB3 h1 hlk q4 lQ2 lb b0 HB2
  cases hz : x.zero with
  | true =>
    rw [hz] at p4
    have HZ := Lib.hid (show x.zero = true ∨ x.put = true from .inl hz)
    have c0 := (H1.out.pg id x HX.out).c0
    have f0 := (H1.out.pg id x HX.out).fz 0
    have q0 := H1.out.q0
    have hne : x.X ≠ d.Q := (H1.out.neX HX.out (.inl rfl)).1
    have hp1 := (H1.out.pool.off ((Off.refl (· = x.X) W).setCell (p := ⟨x.X, 0, none⟩) rfl (.slice none 0 0)) (fun e => (H1.out.neX HX.out (.inl rfl)).2.1 e.symm) (fun e => (H1.out.neX HX.out (.inl rfl)).2.2.1 e.symm) (fun e => (H1.out.neX HX.out (.inl rfl)).2.2.2.1 e.symm))
    have HD := Lib.hid (Drop_yes hp1 j HJ.out.1 HJ.out.2.1 (by rw [HI.out.pz j HJ.out.1]; omega))
    clear hz hp1
    go_wp2_with fail
    refine HD.out.mono ?_
    rintro e w5 ⟨rfl, ⟨c5, hp5⟩, ho5⟩
    have HE := Lib.hid (out_done hK HI.out H1.out HX.out HG.out HZ.out hp5 ho5)
    clear hp5 ho5 HD c0 f0 q0 p4
    go_wp2
    go_ret
    obtain ⟨t2, s1, s2, s3, s4, s5, s6⟩ := HE.out
    exact ⟨t2, 0, rfl, (Stp.below H.out HI.out HB.out).trans s1, s2.more hK (by omega), s3, .inl ⟨rfl, s4, s5, s6⟩⟩
  | false =>
    rw [hz] at p4
    have q0 := H1.out.q0
    have HS := Lib.hid (save_any hK hmi H1.out HI.out HX.out HRD.out)
    clear hz
    go_wp2_with fail
    refine HS.out.mono ?_
    rintro e w2 ⟨t1, er, rfl, s1, s2, s3, eF, eg, eh, ⟨rfl, a, e4, e5, e6⟩ | ⟨rfl, e4, e5⟩⟩
    · have S1 := Lib.hid s1
      have S2 := Lib.hid s2
      have S3 := Lib.hid s3
      have EE := Lib.hid (show t1.F = t.F ∧ t1.g = t.g ∧ t1.pm = updP t.pm id (some { x with at_ := a, put := true }) from ⟨eF, eg, e4⟩)
      have HX2 : Hid (t1.pm id = some { x with at_ := a, put := true }) := Lib.hid (by rw [e4]; exact updP_same _ _ _)
      have c0 := (s1.at_.pg id _ HX2.out).c0
      have f0 := (s1.at_.pg id _ HX2.out).fz 0
      have q0' := s1.at_.q0
      have hp1 := (s1.at_.pool.off ((Off.refl (· = x.X) w2).setCell (p := ⟨x.X, 0, none⟩) rfl (.slice none 0 0)) (fun e => (s1.at_.neX HX2.out (.inl rfl)).2.1 e.symm) (fun e => (s1.at_.neX HX2.out (.inl rfl)).2.2.1 e.symm) (fun e => (s1.at_.neX HX2.out (.inl rfl)).2.2.2.1 e.symm))
      have HD := Lib.hid (Drop_yes hp1 j HJ.out.1 (by rw [eF]; exact HJ.out.2.1) (by rw [s1.inv.pz j HJ.out.1]; omega))
      simp only at c0 f0
      have hne : x.X ≠ d.Q := (s1.at_.neX HX2.out (.inl rfl)).1
      clear s1 s2 s3 eF eg eh e4 e5 e6 hp1 HS q0 p4
      go_wp2_with fail
      refine HD.out.mono ?_
      rintro e w5 ⟨rfl, ⟨c5, hp5⟩, ho5⟩
      have HE := Lib.hid (out_done hK S1.out.inv S1.out.at_ HX2.out (by rw [EE.out.2.1]; exact HG.out) (.inr rfl) hp5 ho5)
      clear hp5 ho5 HD c0 f0 q0'
      go_wp2
      go_ret
      obtain ⟨t2, u1, u2, u3, u4, u5, u6⟩ := HE.out
      refine ⟨t2, 0, rfl, ((Stp.below H.out HI.out HB.out).trans S1.out).trans u1, S2.out.trans u2, S3.out.trans u3, .inl ⟨rfl, by rw [u4, EE.out.2.1], by rw [u5, EE.out.1], fun i hn => ?_⟩⟩
      rw [u6 i hn, EE.out.2.2]
      exact updP_ne _ _ hn
    · have he0 := P.ez0
      have S1 := Lib.hid s1
      have S2 := Lib.hid s2
      have S3 := Lib.hid s3
      have EE := Lib.hid (show t1.F = t.F ∧ t1.g = t.g ∧ t1.pm = t.pm ∧ P.room t.s = 0 from ⟨eF, eg, e5, e4⟩)
      clear s1 s2 s3 eF eg eh e4 e5 HS q0 p4
      go_wp2
      go_ret
      exact ⟨t1, P.ez, rfl, (Stp.below H.out HI.out HB.out).trans S1.out, S2.out, S3.out, .inr ⟨rfl, EE.out.2.2.2, EE.out.2.2.1, EE.out.2.1, EE.out.1⟩⟩
end
end Go.Proofs.Ytmipngefpedfpaa
