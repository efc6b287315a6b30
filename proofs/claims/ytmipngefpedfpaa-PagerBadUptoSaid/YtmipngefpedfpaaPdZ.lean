/- A pager: save. -/
import Derived.Test.YtmipngefpedfpaaPcZ
namespace Go.Proofs.Ytmipngefpedfpaa
open Go.RowKit Go.Maps
set_option linter.unusedVariables false
set_option linter.unusedSimpArgs false

def SvPost {σ : Type} {K : SnkF σ} {M : Snk K} (P : PSnk K) (w : World) (d : PD) (t : PSt σ) (id : Int) (x : Pg) (e : Ending) (w' : World) : Prop :=
  ∃ t' er, e = .returned (.int .i64 er) ∧ Stp M P w w' d t t' ∧ Ev P d.z 1 none9 t t' ∧ Num t t' ∧ t'.F = t.F ∧ t'.g = t.g ∧ t'.h = t.h ∧
    ((er = 0 ∧ ∃ a, t'.pm = updP t.pm id (some { x with at_ := a, put := true }) ∧ (∀ L, cont (P.rd t.s) d.z x = some L → P.rd t'.s a = some L) ∧ (x.put = true → a = x.at_ ∧ P.cnt t'.s = P.cnt t.s)) ∨ (er = P.ez ∧ P.room t.s = 0 ∧ t'.pm = t.pm))
section
variable {σ : Type} {K : SnkF σ} {M : Snk K} {P : PSnk K} {w w' w1 w2 : World} {d : PD} {t t' t1 t2 : PSt σ} {id : Int} {x : Pg}
theorem updP_same (m : Int → Option Pg) (i : Int) (x : Option Pg) : updP m i x i = x := by unfold updP; rw [if_pos rfl]
theorem updP_ne (m : Int → Option Pg) (x : Option Pg) {i j : Int} (h : j ≠ i) : updP m i x j = m j := by unfold updP; rw [if_neg h]
theorem updP_self (hx : t.pm id = some x) : updP t.pm id (some x) = t.pm := by
  funext k
  unfold updP
  split
  · rename_i h; rw [h, hx]
  · rfl
/-- Its bytes were there. -/
theorem sv_has (hK : K.Good) (h : PgrAt M w d t) (hi : PI P d t) (hx : t.pm id = some x) (hp : x.put = true) : SvPost (M := M) P w d t id x (.returned (.int .i64 0)) w := by
  refine ⟨t, 0, rfl, Stp.refl h hi, Ev.refl hK t, Num.refl t, rfl, rfl, rfl, .inl ⟨rfl, x.at_, ?_, fun L hL => ?_, fun _ => ⟨rfl, rfl⟩⟩⟩
  · have e : ({ x with at_ := x.at_, put := true } : Pg) = x := by
      cases x
      simp at hp
      simp [hp]
    rw [e, updP_self hx]
  · obtain ⟨h1, h2⟩ := hi.put id x hx hp
    unfold cont at hL
    cases hb : x.bb with
    | some y =>
      obtain ⟨B, c, L'⟩ := y
      rw [hb] at hL
      simp at hL
      rw [← hL]
      exact h1 B c L' hb
    | none =>
      rw [hb] at hL
      simp only at hL
      cases hz : x.zero with
      | true =>
        rw [hz] at hL
        simp at hL
        rw [← hL]
        exact h2 hz
      | false =>
        rw [hz] at hL
        cases hr : P.rd t.s x.at_ with
        | none => rw [hr] at hL; simp at hL
        | some b =>
          rw [hr] at hL
          simp at hL
          rw [hL.2]
/-- The sink has no room. -/
theorem sv_full (hi : PI P d t) {s1 s2 : σ} (h : PgrAt M w1 d { t with s := s1 }) (ho : Off t.O w w1) (hs : SkSame P t.s s1) (hr : P.room s1 = 0) {b : Bytes} {O' : Nat → Prop} (hput : (K.put s1 b).1 = s2) (ha : M.At w2 O' s2) (hof : Off t.O w1 w2) (hO : ∀ k, O' k → t.O k ∨ w1.heap.size ≤ k) (h2 : s2 = s1) (hK : K.Good) :
    SvPost (M := M) P w d t id x (.returned (.int .i64 P.ez)) w2 := by
  subst h2
  have h3 : PgrAt M w2 d { t with O := O', s := s2 } := h.off hof (fun k hk => h.nO k hk) ha hO
  obtain ⟨q1, q2⟩ := stp_sink (P := P) (z := d.z) (E := none9) hi h ho hs
  refine ⟨{ t with O := O', s := s2 }, P.ez, rfl, ⟨h3, ⟨q1.inv.inn, hi.kv, hi.pz, hi.res, hi.has, q1.inv.put, hi.zer, hi.dty, hi.ids, hi.hol, hi.nx1⟩, (ho.trans hof).mono fun k e => .inr e, fun k hk => ?_⟩, ⟨q2.no, q2.pg, q2.sub, by have := q2.cnt; show P.cnt s2 ≤ _; simp at this; omega, q2.keep, q2.room, fun n hn => hs.rdy n (hK.mono _ _ _ hn (by omega))⟩, ⟨rfl, rfl, rfl⟩, rfl, rfl, rfl, .inr ⟨rfl, by rw [← hs.room]; exact hr, rfl⟩⟩
  rcases hk with hk | hk
  · exact .inl (.inl hk)
  · rcases hO k hk with e | e
    · exact .inl (.inr e)
    · have := ho.size; exact .inr (by omega)
/-- The sink has taken it. -/
theorem sv_took (hK : K.Good) (hi : PI P d t) (hx : t.pm id = some x) (hp : x.put = false) {s1 : σ} (h : PgrAt M w1 d { t with s := s1 }) (ho : Off t.O w w1) (hs : SkSame P t.s s1) (hr : P.room s1 ≠ 0) (hrd : K.Rdy t.s 1) {b : Bytes} (hb : cont (P.rd t.s) d.z x = some b) (hl : b.length ≤ 5000) {O' : Nat → Prop} {w3 w4 : World}
    (ha : M.At w3 O' (K.put s1 b).1) (hof : Off t.O w1 w3) (hO : ∀ k, O' k → t.O k ∨ w1.heap.size ≤ k)
    (hp4 : PgAt w4 d.z { x with at_ := (K.put s1 b).2.1, put := true }) (ho4 : Off x.blk w3 w4) :
    SvPost (M := M) P w d t id x (.returned (.int .i64 0)) w4 := by
  have h3 : PgrAt M w3 d { t with O := O', s := (K.put s1 b).1 } := h.off hof (fun k hk => h.nO k hk) ha hO
  obtain ⟨q1, q2⟩ := stp_sink (P := P) (z := d.z) (E := none9) hi h ho hs
  obtain ⟨p1, p2, p3, p4, p5, p6, p7⟩ := P.put s1 b hs.inn (hs.rdy _ hrd) hl hr
  have hsub : SubR (P.rd t.s) (P.rd (K.put s1 b).1) := by rw [← hs.rd]; exact p5
  have h4 := h3.setPage (id := id) (x := x) (x' := { x with at_ := (K.put s1 b).2.1, put := true }) hx rfl (fun k hk => .inl hk) ho4 hp4
  have hcz : x.zero = true → b = zeros d.z := fun hz => by
    unfold cont at hb
    cases hbb : x.bb with
    | some y =>
      obtain ⟨B, c, L⟩ := y
      rw [hbb] at hb
      simp at hb
      rw [← hb]
      exact hi.zer id x B c L hx hz hbb
    | none =>
      rw [hbb] at hb
      simp [hz] at hb
      exact hb.symm
  have hcb : ∀ B c L, x.bb = some (B, c, L) → b = L := fun B c L e => by
    unfold cont at hb
    rw [e] at hb
    simpa using hb.symm
  have hpm : ∀ i y, updP t.pm id (some { x with at_ := (K.put s1 b).2.1, put := true }) i = some y → (i = id ∧ y = { x with at_ := (K.put s1 b).2.1, put := true }) ∨ (i ≠ id ∧ t.pm i = some y) := fun i y e => by
    unfold updP at e
    split at e
    · rename_i h; exact .inl ⟨h, (Option.some.inj e).symm⟩
    · rename_i h; exact .inr ⟨h, e⟩
  refine ⟨{ t with O := O', s := (K.put s1 b).1, pm := updP t.pm id (some { x with at_ := (K.put s1 b).2.1, put := true }) }, 0, rfl, ⟨h4, ?_, ?_, ?_⟩, ?_, ⟨rfl, rfl, rfl⟩, rfl, rfl, rfl, .inl ⟨rfl, (K.put s1 b).2.1, rfl, fun L hL => ?_, fun e => by rw [hp] at e; cases e⟩⟩
  · refine ⟨p2, hi.kv, hi.pz, fun i j hg => ?_, fun i y hy hb => ?_, fun i y hy hpp => ?_, fun i y B c L hy hz hbb => ?_, fun i y hy h1 h2 => ?_, fun i y hy => ?_, hi.hol, hi.nx1⟩
    · obtain ⟨y, e1, e2⟩ := hi.res i j hg
      by_cases hid : i = id
      · subst hid
        rw [hx] at e1
        cases e1
        exact ⟨{ x with at_ := (K.put s1 b).2.1, put := true }, updP_same _ _ _, e2⟩
      · exact ⟨y, (updP_ne _ _ hid).trans e1, e2⟩
    · rcases hpm i y hy with ⟨rfl, rfl⟩ | ⟨e, e2⟩
      · exact hi.has i x hx hb
      · exact hi.has i y e2 hb
    · rcases hpm i y hy with ⟨rfl, rfl⟩ | ⟨e, e2⟩
      · exact ⟨fun B c L e => by rw [← hcb B c L e]; exact p3, fun hz => by rw [← hcz hz]; exact p3⟩
      · obtain ⟨f1, f2⟩ := hi.put i y e2 hpp
        exact ⟨fun B c L e => hsub _ _ (f1 B c L e), fun hz => hsub _ _ (f2 hz)⟩
    · rcases hpm i y hy with ⟨rfl, rfl⟩ | ⟨e, e2⟩
      · exact hi.zer i x B c L hx hz hbb
      · exact hi.zer i y B c L e2 hz hbb
    · rcases hpm i y hy with ⟨rfl, rfl⟩ | ⟨e, e2⟩
      · simp at h1
      · exact hi.dty i y e2 h1 h2
    · rcases hpm i y hy with ⟨rfl, rfl⟩ | ⟨e, e2⟩
      · exact hi.ids i x hx
      · exact hi.ids i y e2
  · exact ((ho.trans hof).mono fun k e => Or.inr e).late ho4 (fun i hi2 e => .inl (.inr (.inr (.inr (.inr (.inr ⟨id, x, hx, e⟩))))))
  · intro k hk
    rcases hk with hk | hk
    · rcases own_upd hx hk with e | e
      · exact .inl (.inl e)
      · exact .inl (.inl (.inr (.inr (.inr (.inr (.inr ⟨id, x, hx, e⟩))))))
    · rcases hO k hk with e | e
      · exact .inl (.inr e)
      · have := ho.size; exact .inr (by omega)
  · refine ⟨fun i _ hn => ?_, fun i y _ hy => ?_, hsub, by show P.cnt (K.put s1 b).1 ≤ _; rw [p6, hs.cnt]; omega, fun hall => ?_, fun hr2 => ?_, fun n hn => hK.putR s1 b n (hs.rdy _ hn) hl⟩
    · show updP _ _ _ _ = _
      unfold updP
      rw [if_neg (fun e => by rw [e, hx] at hn; cases hn)]
      exact hn
    · by_cases hid : i = id
      · subst hid
        rw [hx] at hy
        cases hy
        refine ⟨{ x with at_ := (K.put s1 b).2.1, put := true }, updP_same _ _ _, rfl, rfl, rfl, (fun e => by rw [hp] at e; cases e), fun L hL => ?_⟩
        rw [hb] at hL
        cases hL
        unfold cont at hb ⊢
        cases hbb : x.bb with
        | some y => rw [hbb] at hb; exact hb
        | none =>
          rw [hbb] at hb
          simp only at hb ⊢
          cases hz : x.zero with
          | true => rw [hz] at hb; exact hb
          | false => exact absurd hbb (hi.dty i x hx hp hz)
      · refine ⟨y, (updP_ne _ _ hid).trans hy, rfl, rfl, rfl, fun e => ⟨e, rfl⟩, fun L hL => ?_⟩
        exact cont_sub hsub hL
    · exact absurd (hall id x hx) (by rw [hp]; exact Bool.false_ne_true)
    · show P.room (K.put s1 b).1 < 0
      rw [p7, hs.room, if_neg (by omega)]
      exact hr2
  · rw [hb] at hL
    cases hL
    exact p3
end
end Go.Proofs.Ytmipngefpedfpaa
