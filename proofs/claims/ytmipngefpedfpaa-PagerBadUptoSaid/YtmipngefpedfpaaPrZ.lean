/- A pager: Save, Where, Move. -/
import Derived.Test.YtmipngefpedfpaaPqZ
namespace Go.Proofs.Ytmipngefpedfpaa
open Go.RowKit Go.Maps
set_option linter.unusedVariables false
set_option linter.unusedSimpArgs false

def SaPost {σ : Type} {K : SnkF σ} (M : Snk K) (P : PSnk K) (w : World) (d : PD) (t : PSt σ) (id : Int) (e : Ending) (w' : World) : Prop :=
  ∃ t' a er, e = .returned (.tuple #[addrV a, .int .i64 er]) ∧ Stp M P w w' d t t' ∧ Ev P d.z 1 none9 t t' ∧ Num t t' ∧
    ((er = 2 ∧ t.pm id = none) ∨ (er = P.ez ∧ P.room t.s = 0 ∧ t.pm id ≠ none) ∨
      (er = 0 ∧ ∃ x, t.pm id = some x ∧ t'.pm id = some { x with at_ := a, put := true } ∧ (∀ L, cont (P.rd t.s) d.z x = some L → P.rd t'.s a = some L) ∧ (x.put = true → P.cnt t'.s = P.cnt t.s)))
/-- Where a page stands. -/
def whA (x : Option Pg) : (Int × Int) × Bool := match x with
  | some x => if x.put then (x.at_, true) else ((0, 0), false)
  | none => ((0, 0), false)
def WhPost {σ : Type} (w : World) (t : PSt σ) (id : Int) (e : Ending) (w' : World) : Prop :=
  e = .returned (.tuple #[addrV (whA (t.pm id)).1, .bool (whA (t.pm id)).2]) ∧ Below w.heap.size w w'
def MvPost {σ : Type} {K : SnkF σ} (M : Snk K) (P : PSnk K) (w : World) (d : PD) (t : PSt σ) (id : Int) (a : Int × Int) (e : Ending) (w' : World) : Prop :=
  ∃ t' er, e = .returned (.int .i64 er) ∧ Stp M P w w' d t t' ∧ Num t t' ∧ Ev P d.z 0 (· = id) t t' ∧ t'.s = t.s ∧
    ((er = 2 ∧ t.pm id = none ∧ t' = t) ∨ (er = 9 ∧ (∃ x, t.pm id = some x ∧ x.put = false) ∧ t' = t) ∨
      (er = 0 ∧ ∃ x, t.pm id = some x ∧ x.put = true ∧ t'.pm id = some { x with at_ := a } ∧ ∀ L, cont (P.rd t.s) d.z x = some L → cont (P.rd t'.s) d.z { x with at_ := a } = some L))
section
variable {σ : Type} {K : SnkF σ} {M : Snk K} {P : PSnk K} {w w' w1 w2 w3 w4 w5 : World} {d : PD} {t t' t1 t2 : PSt σ} {id : Int} {x y : Pg} {j : Nat} {z k1 k2 : Nat} {E : Int → Prop}
/-- A page that is told where it stands. -/
theorem mv_done (hK : K.Good) (h : PgrAt M w d t) (hi : PI P d t) (hx : t.pm id = some x) (hp : x.put = true) {a : Int × Int} (ha : ∀ L, cont (P.rd t.s) d.z x = some L → P.rd t.s a = some L) (hb : Below w.heap.size w w1) :
    MvPost M P w d t id a (.returned (.int .i64 0)) ((w1.setCell ⟨x.X, 1, none⟩ (.int .i64 a.1)).setCell ⟨x.X, 2, none⟩ (.int .i64 a.2)) := by
  have hz := h.zs.1
  have h1 := h.up hb
  have hpg := h1.pg id x hx
  have hp1 := hpg.set (k := 1) (v := .int .i64 a.1) (x' := { x with at_ := (a.1, x.at_.2) }) rfl rfl rfl rfl rfl rfl rfl (fun B c L e => hpg.bsX hz e)
  have hp2 := hp1.set (k := 2) (v := .int .i64 a.2) (x' := { x with at_ := a }) rfl rfl rfl rfl rfl rfl rfl (fun B c L e => hp1.bsX hz e)
  have ho : Off x.blk w1 ((w1.setCell ⟨x.X, 1, none⟩ (.int .i64 a.1)).setCell ⟨x.X, 2, none⟩ (.int .i64 a.2)) := ((Off.refl x.blk w1).setCell (p := ⟨x.X, 1, none⟩) (.inl rfl) _).setCell (p := ⟨x.X, 2, none⟩) (.inl rfl) _
  have h2 := h1.setPage (id := id) (x := x) (x' := { x with at_ := a }) hx rfl (fun k hk => .inl hk) ho hp2
  have hpm : ∀ i y, updP t.pm id (some { x with at_ := a }) i = some y → (i = id ∧ y = { x with at_ := a }) ∨ (i ≠ id ∧ t.pm i = some y) := fun i y e => by
    unfold updP at e
    split at e
    · rename_i h; exact .inl ⟨h, (Option.some.inj e).symm⟩
    · rename_i h; exact .inr ⟨h, e⟩
  have hcx : ∀ B c L, x.bb = some (B, c, L) → P.rd t.s a = some L := fun B c L e => ha L (by unfold cont; rw [e])
  have hczero : x.zero = true → P.rd t.s a = some (zeros d.z) := fun hzz => by
    cases hbb : x.bb with
    | some v =>
      obtain ⟨B, c, L⟩ := v
      rw [← hi.zer id x B c L hx hzz hbb]
      exact hcx B c L hbb
    | none => exact ha _ (by unfold cont; rw [hbb, hzz]; rfl)
  refine ⟨{ t with pm := updP t.pm id (some { x with at_ := a }) }, 0, rfl, ⟨h2, ?_, ?_, ?_⟩, ⟨rfl, rfl, rfl⟩, ?_, rfl, .inr (.inr ⟨rfl, x, hx, hp, updP_same _ _ _, fun L hL => ?_⟩)⟩
  · refine ⟨hi.inn, hi.kv, hi.pz, fun i k hik => ?_, fun i y hy hbb => ?_, fun i y hy hpp => ?_, fun i y B c L hy hzz hbb => ?_, fun i y hy h1 h2 => ?_, fun i y hy => ?_, hi.hol, hi.nx1⟩
    · obtain ⟨y, f1, f2⟩ := hi.res i k hik
      by_cases hid : i = id
      · subst hid
        rw [hx] at f1
        cases f1
        exact ⟨{ x with at_ := a }, updP_same _ _ _, f2⟩
      · exact ⟨y, (updP_ne _ _ hid).trans f1, f2⟩
    · rcases hpm i y hy with ⟨rfl, rfl⟩ | ⟨e, f⟩
      · exact hi.has i x hx hbb
      · exact hi.has i y f hbb
    · rcases hpm i y hy with ⟨rfl, rfl⟩ | ⟨e, f⟩
      · exact ⟨hcx, hczero⟩
      · exact hi.put i y f hpp
    · rcases hpm i y hy with ⟨rfl, rfl⟩ | ⟨e, f⟩
      · exact hi.zer i x B c L hx hzz hbb
      · exact hi.zer i y B c L f hzz hbb
    · rcases hpm i y hy with ⟨rfl, rfl⟩ | ⟨e, f⟩
      · exact hi.dty i x hx h1 h2
      · exact hi.dty i y f h1 h2
    · rcases hpm i y hy with ⟨rfl, rfl⟩ | ⟨e, f⟩
      · exact hi.ids i x hx
      · exact hi.ids i y f
  · exact (Off.of_below hb).trans (ho.mono fun k hk => .inl (.inr (.inr (.inr (.inr (.inr ⟨id, x, hx, hk⟩))))))
  · intro k hk
    rcases hk with hk | hk
    · rcases own_upd hx hk with e | e
      · exact .inl (.inl e)
      · exact .inl (.inl (.inr (.inr (.inr (.inr (.inr ⟨id, x, hx, e⟩))))))
    · exact .inl (.inr hk)
  · exact ⟨fun i he hn => (updP_ne _ _ he).trans hn, fun i y he hy => ⟨y, (updP_ne _ _ he).trans hy, rfl, rfl, rfl, fun h => ⟨h, rfl⟩, fun L hL => hL⟩, SubR.refl _, Nat.le_refl _, fun _ => rfl, fun h => h, fun n h => h⟩
  · show cont (P.rd t.s) d.z { x with at_ := a } = some L
    have hra := ha L hL
    unfold cont at hL ⊢
    cases hbb : x.bb with
    | some v => rw [hbb] at hL; exact hL
    | none =>
      rw [hbb] at hL
      simp only at hL ⊢
      cases hzz : x.zero with
      | true => rw [hzz] at hL; exact hL
      | false =>
        rw [hzz] at hL
        rw [if_neg (by simp), hra]
        have hl : L.length = d.z := by
          cases hr : P.rd t.s x.at_ with
          | none => rw [hr] at hL; simp at hL
          | some b =>
            rw [hr] at hL
            simp at hL
            rw [← hL.2]; exact hL.1
        simp [hl]
theorem mv_up {a : Int × Int} {e : Ending} (h : MvPost M P w d t id a e w1) (hb : Below w1.heap.size w1 w2) : MvPost M P w d t id a e w2 := by
  obtain ⟨t', er, h1, h2, h3⟩ := h
  exact ⟨t', er, h1, h2.up hb, h3⟩
set_option maxRecDepth 100000 in
set_option maxHeartbeats 4000000 in
theorem where_any (h : PgrAt M w d t) (h0 : t.hole = none) (hid : -9223372036854775808 ≤ id ∧ id ≤ 9223372036854775807) :
    Calls Try.prog 40 #[.pointer (some ⟨d.Q, 0, none⟩), .int .i64 id] w (WhPost w t id) := by
  have hb : Below w.heap.size w (w.alloc (.cells #[.int .i64 0, .int .i64 0] 40)) := (Below.refl _ _).alloc (Nat.le_refl _) _
  have hlk := (h.up hb).look hid
  rw [vis_none h0] at hlk
  have q4 := h.q4
  have lQ := h.ltQ
  cases hx : t.pm id with
  | none =>
    rw [hx] at hlk
    have HX := Lib.hid hx
    simp only [pgP, Option.map_none] at hlk
    have HG : Hid (∀ W, Below w.heap.size w W → WhPost w t id (.returned (.tuple #[.agg #[.int .i64 0, .int .i64 0], .bool false])) W) := Lib.hid fun W hb => ⟨by rw [hx]; rfl, hb⟩
    clear h hx hb h0
    go_enter Try.func40, Try.ntmps40
    go_wp2
    have hbx := BoxA.new w 40 (0, 0)
    refine bodyPost_ret (results_addr rfl _ _ _ _ _ rfl hbx.1 hbx.2.1) rfl ?_
    exact HG.out _ (by go_grown)
  | some x =>
    rw [hx] at hlk
    have HX := Lib.hid hx
    simp only [pgP, Option.map_some] at hlk
    have p1 := (h.pg id x hx).c1
    have p2 := (h.pg id x hx).c2
    have p3 := (h.pg id x hx).c3
    have lX := (h.pg id x hx).lt
    cases hp : x.put with
    | false =>
      rw [hp] at p3
      have HG : Hid (∀ W, Below w.heap.size w W → WhPost w t id (.returned (.tuple #[.agg #[.int .i64 0, .int .i64 0], .bool false])) W) := Lib.hid fun W hb => ⟨by rw [hx]; simp [whA, hp, addrV], hb⟩
      clear h hx hb h0 hp
      go_enter Try.func40, Try.ntmps40
      go_wp2
      have hbx := BoxA.new w 40 (0, 0)
      refine bodyPost_ret (results_addr rfl _ _ _ _ _ rfl hbx.1 hbx.2.1) rfl ?_
      exact HG.out _ (by go_grown)
    | true =>
      rw [hp] at p3
      have HG : Hid (∀ W, Below w.heap.size w W → WhPost w t id (.returned (.tuple #[.agg #[.int .i64 x.at_.1, .int .i64 x.at_.2], .bool true])) W) := Lib.hid fun W hb => ⟨by rw [hx]; simp [whA, hp, addrV], hb⟩
      clear h hx hb h0 hp
      go_enter Try.func40, Try.ntmps40
      go_wp2
      have hbx := BoxA.new w 40 x.at_
      refine bodyPost_ret (results_addr rfl _ _ _ _ _ rfl hbx.1 hbx.2.1) rfl ?_
      exact HG.out _ (by go_grown)
set_option maxRecDepth 100000 in
set_option maxHeartbeats 4000000 in
theorem move_any (hK : K.Good) (h : PgrAt M w d t) (hi : PI P d t) (h0 : t.hole = none) (hid : -9223372036854775808 ≤ id ∧ id ≤ 9223372036854775807) (a : Int × Int) (ha : ∀ x L, t.pm id = some x → cont (P.rd t.s) d.z x = some L → P.rd t.s a = some L) :
    Calls Try.prog 42 #[.pointer (some ⟨d.Q, 0, none⟩), .int .i64 id, addrV a] w (MvPost M P w d t id a) := by
  have hb : Below w.heap.size w (w.alloc (.cells #[.int .i64 a.1, .int .i64 a.2] 40)) := (Below.refl _ _).alloc (Nat.le_refl _) _
  have hlk := (h.up hb).look hid
  rw [vis_none h0] at hlk
  have q4 := h.q4
  have lQ := h.ltQ
  unfold addrV
  cases hx : t.pm id with
  | none =>
    rw [hx] at hlk
    simp only [pgP, Option.map_none] at hlk
    have HG : Hid (∀ W, Below w.heap.size w W → MvPost M P w d t id a (.returned (.int .i64 2)) W) := Lib.hid fun W hb => ⟨t, 2, rfl, Stp.below h hi hb, Num.refl t, (Ev.refl hK t), rfl, .inl ⟨rfl, hx, rfl⟩⟩
    clear h hx hb h0 hi ha
    go_enter Try.func42, Try.ntmps42
    go_wp2
    go_ret
    exact HG.out _ (by go_grown)
  | some x =>
    rw [hx] at hlk
    simp only [pgP, Option.map_some] at hlk
    have p1 := (h.pg id x hx).c1
    have p2 := (h.pg id x hx).c2
    have p3 := (h.pg id x hx).c3
    have f1 := (h.pg id x hx).fz 1
    have f2 := (h.pg id x hx).fz 2
    have lX := (h.pg id x hx).lt
    cases hp : x.put with
    | false =>
      rw [hp] at p3
      have HG : Hid (∀ W, Below w.heap.size w W → MvPost M P w d t id a (.returned (.int .i64 9)) W) := Lib.hid fun W hb => ⟨t, 9, rfl, Stp.below h hi hb, Num.refl t, (Ev.refl hK t), rfl, .inr (.inl ⟨rfl, ⟨x, hx, hp⟩, rfl⟩)⟩
      clear h hx hb h0 hi ha hp
      go_enter Try.func42, Try.ntmps42
      go_wp2
      go_ret
      exact HG.out _ (by go_grown)
    | true =>
      rw [hp] at p3
      have HG := Lib.hid (fun W hb => mv_up (mv_done hK h hi hx hp (ha x · hx) (Below.refl _ _)) (w2 := W) hb)
      clear h hx hb h0 hi ha hp
      go_enter Try.func42, Try.ntmps42
      go_wp2
      go_ret
      exact HG.out _ ((Below.refl _ _).alloc (Nat.le_refl _) _)
end
end Go.Proofs.Ytmipngefpedfpaa
