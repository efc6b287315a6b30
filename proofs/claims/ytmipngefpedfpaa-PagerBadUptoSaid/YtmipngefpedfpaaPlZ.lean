/- A pager: add, Make, Bring. -/
import Derived.Test.YtmipngefpedfpaaPkZ
namespace Go.Proofs.Ytmipngefpedfpaa
open Go.RowKit Go.Maps
set_option linter.unusedVariables false
set_option linter.unusedSimpArgs false

section
variable {σ : Type} {K : SnkF σ} {M : Snk K} {P : PSnk K} {w w' w1 w2 w3 w4 w5 : World} {d : PD} {t t' t1 t2 : PSt σ} {id : Int} {x : Pg} {j : Nat} {z k1 k2 : Nat} {E : Int → Prop}
theorem Ev.trans2 (h : Ev P z k1 E t t1) (g : Ev P z k2 none9 t1 t2) (hk : (∀ i x, t.pm i = some x → x.put = true) → P.cnt t2.s = P.cnt t.s) : Ev P z (k1 + k2) E t t2 := by
  refine ⟨fun i he hi => g.no i id (h.no i he hi), fun i x he hx => ?_, h.sub.trans g.sub, by have := h.cnt; have := g.cnt; omega, hk, fun hr => g.room (h.room hr), fun n hn => g.rdy n (h.rdy _ (by rw [show n + k2 + k1 = n + (k1 + k2) by omega]; exact hn))⟩
  obtain ⟨x1, e1, e2, e3, e4, e5, e6⟩ := h.pg i x he hx
  obtain ⟨x2, f1, f2, f3, f4, f5, f6⟩ := g.pg i x1 id e1
  exact ⟨x2, f1, f2.trans e2, f3.trans e3, f4.trans e4, fun hp => ⟨(f5 (e5 hp).1).1, (f5 (e5 hp).1).2.trans (e5 hp).2⟩, fun L hL => f6 L (e6 L hL)⟩
theorem pm_next (hi : PI P d t) (h0 : t.hole = none) : t.pm t.nx = none := by
  cases hx : t.pm t.nx with
  | none => rfl
  | some x =>
    have := (hi.ids _ x hx).2.2 rfl
    rw [h0] at this
    cases this
theorem g_next (hi : PI P d t) (h0 : t.hole = none) : t.g t.nx = none := by
  cases hg : t.g t.nx with
  | none => rfl
  | some j =>
    obtain ⟨x, h1, _⟩ := hi.res _ j hg
    rw [pm_next hi h0] at h1
    cases h1
theorem pi_virt (hi : PI P d t) (h0 : t.hole = none) (hbb : x.bb = none) (hp : x.put = true → x.zero = true → P.rd t.s x.at_ = some (zeros d.z)) (hz : x.put = true ∨ x.zero = true) : PI P d { t with pm := updP t.pm t.nx (some x), hole := some (t.nx : Int) } := by
  have hn := pm_next hi h0
  have hpm : ∀ i y, updP t.pm t.nx (some x) i = some y → (i = t.nx ∧ y = x) ∨ (i ≠ t.nx ∧ t.pm i = some y) := fun i y e => by
    unfold updP at e
    split at e
    · rename_i h; exact .inl ⟨h, (Option.some.inj e).symm⟩
    · rename_i h; exact .inr ⟨h, e⟩
  refine ⟨hi.inn, hi.kv, hi.pz, fun i k hik => ?_, fun i y hy hb => ?_, fun i y hy hpp => ?_, fun i y B c L hy hzz hb => ?_, fun i y hy h1 h2 => ?_, fun i y hy => ?_, fun i e => (Option.some.inj e).symm, hi.nx1⟩
  · obtain ⟨y, f1, f2⟩ := hi.res i k hik
    exact ⟨y, (updP_ne _ _ (fun e => by rw [e, hn] at f1; cases f1)).trans f1, f2⟩
  · rcases hpm i y hy with ⟨rfl, rfl⟩ | ⟨e, f⟩
    · exact absurd hbb hb
    · exact hi.has i y f hb
  · rcases hpm i y hy with ⟨rfl, rfl⟩ | ⟨e, f⟩
    · exact ⟨(fun B c L e => by rw [hbb] at e; cases e), fun hzz => hp hpp hzz⟩
    · exact hi.put i y f hpp
  · rcases hpm i y hy with ⟨rfl, rfl⟩ | ⟨e, f⟩
    · rw [hbb] at hb; cases hb
    · exact hi.zer i y B c L f hzz hb
  · rcases hpm i y hy with ⟨rfl, rfl⟩ | ⟨e, f⟩
    · rcases hz with hz | hz
      · rw [hz] at h1; cases h1
      · rw [hz] at h2; cases h2
    · exact hi.dty i y f h1 h2
  · rcases hpm i y hy with ⟨rfl, rfl⟩ | ⟨e, f⟩
    · exact ⟨by have := hi.nx1; omega, Int.le_refl _, fun _ => rfl⟩
    · obtain ⟨g1, g2, g3⟩ := hi.ids i y f
      exact ⟨g1, g2, fun e2 => by rw [e2]⟩
theorem pi_add (hi : PI P d t) {c' : Nat} : PI P d { t with nx := t.nx + 1, hole := none, cm := c' } := by
  refine ⟨hi.inn, hi.kv, hi.pz, hi.res, hi.has, hi.put, hi.zer, hi.dty, fun i y hy => ?_, (fun i e => by cases e), Nat.le_add_left _ _⟩
  obtain ⟨g1, g2, g3⟩ := hi.ids i y hy
  refine ⟨g1, by show i ≤ ((t.nx + 1 : Nat) : Int); omega, fun e => ?_⟩
  have e' : i = ((t.nx + 1 : Nat) : Int) := e
  omega
/-- A new page is put in its place. -/
def AdPost (M : Snk K) (P : PSnk K) (w : World) (d : PD) (t : PSt σ) (e : Ending) (w' : World) : Prop :=
  ∃ c' : Nat, e = .returned (.int .i64 (t.nx : Nat)) ∧ Stp M P w w' d t { t with nx := t.nx + 1, hole := none, cm := t.cm + 1 }
set_option maxRecDepth 100000 in
set_option maxHeartbeats 1000000 in
theorem add_any (h : PgrAt M w d t) (hi : PI P d t) (hh : t.hole = some (t.nx : Int)) (hx : t.pm t.nx = some x) (hn : t.nx < 4611686018427387904) :
    Calls Try.prog 27 #[.pointer (some ⟨d.Q, 0, none⟩), .pointer (some ⟨x.X, 0, none⟩)] w (AdPost M P w d t) := by
  obtain ⟨h2, ho2⟩ := h.setNx (t.nx + 1)
  have hkey : keyOf Try.prog 3 (.int .i64 (t.nx : Nat)) = some _ := keyOf_int_mk Try.underlying3 (int_wf (k := (t.nx : Int)) (by omega))
  obtain ⟨w3, hrun, hm, ho3⟩ := MapIs.put h2.mp intKeyed Try.underlying68 (val := .pointer (some ⟨x.X, 0, none⟩)) hkey
  have hvis : visP t.pm t.hole t.nx = none := by unfold visP; rw [if_pos hh.symm]
  have hm2 : MapIs Try.prog 3 w3 d.Mm (pgF (visP t.pm none)) (t.cm + 1) := by
    have e1 : (pgF (visP t.pm t.hole) (.int .i64 (t.nx : Nat))).isSome = false := by rw [pgF_at, hvis]; rfl
    have e2 : putK (pgF (visP t.pm t.hole)) (.int .i64 (t.nx : Nat)) (.pointer (some ⟨x.X, 0, none⟩)) = pgF (visP t.pm none) := by
      rw [pgF_put]
      refine pgF_congr fun k => ?_
      unfold updP visP
      rw [hh, if_neg (show ¬ some k = none from fun e => by cases e)]
      by_cases hk : k = t.nx
      · rw [if_pos hk, hk, hx]
      · rw [if_neg hk, if_neg (fun e => hk (Option.some.inj e))]
    have hm' := hm
    simp only at hm'
    rw [e1, e2] at hm'
    exact hm'
  have h3 := h2.setMap ho3 hm2 (fun k x => id)
  have HE : Hid (AdPost M P w d t (.returned (.int .i64 (t.nx : Nat))) w3) := Lib.hid ⟨0, rfl, h3, pi_add hi, (ho2.mono (S' := Own d t) (fun k e => by rw [e]; exact .inl (.inl rfl))).trans (ho3.mono fun k e => by rw [e]; exact .inl (.inr (.inr (.inr (.inr (.inl rfl)))))), fun k hk => .inl hk⟩
  have q5 := h.q5
  have q4 := h.q4
  have f5 := h.qz 5
  have lQ := h.ltQ
  have hw1 : IntKind.i64.wrap ((t.nx : Int) + 1) = (t.nx : Int) + 1 := IntWalk.i64_in _ (by omega)
  have hnx : ((t.nx + 1 : Nat) : Int) = (t.nx : Int) + 1 := by omega
  rw [hnx] at hrun
  clear h hi hh hx h2 ho2 hm hm2 h3 ho3 hkey hvis hnx
  go_enter Try.func27, Try.ntmps27
  go_wp2
  go_ret
  exact HE.out
end
end Go.Proofs.Ytmipngefpedfpaa
