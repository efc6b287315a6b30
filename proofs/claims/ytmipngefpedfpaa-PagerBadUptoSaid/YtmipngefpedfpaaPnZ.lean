/- A pager: Copy. -/
import Derived.Test.YtmipngefpedfpaaPmZ
namespace Go.Proofs.Ytmipngefpedfpaa
open Go.RowKit Go.Maps
set_option linter.unusedVariables false
set_option linter.unusedSimpArgs false

def CpPost {σ : Type} {K : SnkF σ} {M : Snk K} (P : PSnk K) (w : World) (d : PD) (t : PSt σ) (id : Int) (e : Ending) (w' : World) : Prop :=
  ∃ t' r er, e = .returned (.tuple #[.int .i64 r, .int .i64 er]) ∧ Stp M P w w' d t t' ∧
    ((er = 0 ∧ r = t.nx ∧ ∃ x y, t.pm id = some x ∧ Mk P d.z 1 t t' y ∧ y.uses = 0 ∧ ∀ L, cont (P.rd t.s) d.z x = some L → cont (P.rd t'.s) d.z y = some L) ∨
     (Num t t' ∧ Ev P d.z 1 none9 t t' ∧ r = 0 ∧ ((er = 2 ∧ t.pm id = none) ∨ (er = P.ez ∧ P.room t.s = 0 ∧ t.pm id ≠ none))))
section
variable {σ : Type} {K : SnkF σ} {M : Snk K} {P : PSnk K} {w w' w1 w2 w3 w4 w5 : World} {d : PD} {t t' t1 t2 : PSt σ} {id : Int} {x y : Pg} {j : Nat} {z k1 k2 : Nat} {E : Int → Prop}
theorem cp_cont (hi : PI P d t) (hx : t.pm id = some x) (hpz : x.put = true ∨ x.zero = true) (hl : ∀ B c L, x.bb = some (B, c, L) → L.length = d.z) {y : Pg} (hb : y.bb = none) (ha : y.at_ = x.at_) (hp : y.put = x.put) (hz : y.zero = x.zero) {L : Bytes} (hL : cont (P.rd t.s) d.z x = some L) : cont (P.rd t.s) d.z y = some L := by
  unfold cont at hL ⊢
  rw [hb]
  simp only
  rw [hz, ha]
  cases hbb : x.bb with
  | none => rw [hbb] at hL; exact hL
  | some v =>
    obtain ⟨B, c, L'⟩ := v
    rw [hbb] at hL
    simp only [Option.some.injEq] at hL
    subst hL
    cases hzz : x.zero with
    | true => rw [if_pos rfl, hi.zer id x B c L' hx hzz hbb]
    | false =>
      have hpp : x.put = true := by
        rcases hpz with h | h
        · exact h
        · rw [hzz] at h; cases h
      rw [(hi.put id x hx hpp).1 B c L' hbb]
      simp [hl B c L' hbb]
/-- The page that nobody knows is let go. -/
theorem unvirt (h : PgrAt M w d t) (hi : PI P d t) (hh : t.hole = some (t.nx : Int)) (hg : t.g t.nx = none) : PgrAt M w d { t with pm := updP t.pm t.nx none, hole := none } ∧ PI P d { t with pm := updP t.pm t.nx none, hole := none } := by
  have hsub : ∀ k y, updP t.pm t.nx none k = some y → k ≠ t.nx ∧ t.pm k = some y := fun k y e => by
    unfold updP at e
    split at e
    · cases e
    · rename_i h; exact ⟨h, e⟩
  refine ⟨h.setMap (pm' := updP t.pm t.nx none) (hole' := none) (Off.refl _ _) ?_ (fun k y e => (hsub k y e).2), hi.inn, hi.kv, hi.pz, fun i k hik => ?_, fun i y hy hb => ?_, fun i y hy hpp => ?_, fun i y B c L hy hzz hb => ?_, fun i y hy h1 h2 => ?_, fun i y hy => ?_, (fun i e => by cases e), hi.nx1⟩
  · have e : pgF (visP (updP t.pm t.nx none) none) = pgF (visP t.pm t.hole) := pgF_congr fun k => by
      unfold visP updP
      rw [hh, if_neg (show ¬ some k = none from fun e => by cases e)]
      by_cases hk : k = t.nx
      · rw [if_pos hk, if_pos (by rw [hk])]
      · rw [if_neg hk, if_neg (fun e => hk (Option.some.inj e))]
    rw [e]
    exact h.mp
  · obtain ⟨y, f1, f2⟩ := hi.res i k hik
    exact ⟨y, (updP_ne _ _ (fun e => by have hik' : t.g i = some k := hik; rw [e, hg] at hik'; cases hik')).trans f1, f2⟩
  · exact hi.has i y (hsub i y hy).2 hb
  · exact hi.put i y (hsub i y hy).2 hpp
  · exact hi.zer i y B c L (hsub i y hy).2 hzz hb
  · exact hi.dty i y (hsub i y hy).2 h1 h2
  · obtain ⟨g1, g2, g3⟩ := hi.ids i y (hsub i y hy).2
    exact ⟨g1, g2, fun e => absurd e (hsub i y hy).1⟩
theorem ByAt.bsl {B c : Nat} {L : Bytes} (h : ByAt w z B c L) : Value.slice (some ⟨B, 0, none⟩) z c = .slice (some ⟨B, 0, none⟩) L.length c := by rw [h.len]
/-- Other bytes are laid into the page that nobody knows. -/
theorem cp_lay (hK : K.Good) {w0 : World} {t0 : PSt σ} (S : Stp M P w0 w1 d t0 t1) (hx : t1.pm id = some x) (hb0 : x.bb ≠ none) {B c : Nat} {L : Bytes} (hby : ByAt w1 d.z B c L) (hB : ¬ Own d t1 B) (hBB : w0.heap.size ≤ B) (hp : x.put = false) :
    Stp M P w0 ((w1.setCell ⟨x.X, 0, none⟩ (.slice (some ⟨B, 0, none⟩) d.z c)).setCell ⟨x.X, 4, none⟩ (.bool false)) d t0 { t1 with pm := updP t1.pm id (some { x with bb := some (B, c, L), zero := false }) } := by
  have h1 := S.at_
  have hi := S.inv
  have hz := h1.zs.1
  have hpg := h1.pg id x hx
  have hXB : B ≠ x.X := fun e => hB (.inl (.inr (.inr (.inr (.inr (.inr ⟨id, x, hx, .inl e⟩))))))
  have hp2 : PgAt (w1.setCell ⟨x.X, 0, none⟩ (.slice (some ⟨B, 0, none⟩) d.z c)) d.z { x with bb := some (B, c, L) } := hpg.set (k := 0) (x' := { x with bb := some (B, c, L) }) rfl (by unfold Pg.bv; simp [hby.len]) rfl rfl rfl rfl rfl (fun B' c' L' e => by
    cases e
    exact hby.off hz ((Off.refl (· = x.X) w1).setCell (p := ⟨x.X, 0, none⟩) rfl _) hXB)
  have hp3 := hp2.set (k := 4) (v := .bool false) (x' := { x with bb := some (B, c, L), zero := false }) rfl rfl rfl rfl rfl rfl rfl (fun B c L e => hp2.bsX hz e)
  have ho : Off x.blk w1 ((w1.setCell ⟨x.X, 0, none⟩ (.slice (some ⟨B, 0, none⟩) d.z c)).setCell ⟨x.X, 4, none⟩ (.bool false)) := ((Off.refl x.blk w1).setCell (p := ⟨x.X, 0, none⟩) (.inl rfl) _).setCell (p := ⟨x.X, 4, none⟩) (.inl rfl) _
  have h4 := h1.setPage (id := id) (x := x) (x' := { x with bb := some (B, c, L), zero := false }) hx rfl (fun k hk => by
    rcases hk with e | ⟨c1, L1, e⟩
    · exact .inl (.inl e)
    · cases e
      exact .inr ⟨fun e => hB (.inl e), fun e => hB (.inr e)⟩) ho hp3
  have hpm : ∀ i y, updP t1.pm id (some { x with bb := some (B, c, L), zero := false }) i = some y → (i = id ∧ y = { x with bb := some (B, c, L), zero := false }) ∨ (i ≠ id ∧ t1.pm i = some y) := fun i y e => by
    unfold updP at e
    split at e
    · rename_i h; exact .inl ⟨h, (Option.some.inj e).symm⟩
    · rename_i h; exact .inr ⟨h, e⟩
  refine ⟨h4, ?_, ?_, ?_⟩
  · refine ⟨hi.inn, hi.kv, hi.pz, fun i k hik => ?_, fun i y hy hbb => ?_, fun i y hy hpp => ?_, fun i y B c L hy hzz hbb => ?_, fun i y hy h1 h2 => ?_, fun i y hy => ?_, hi.hol, hi.nx1⟩
    · obtain ⟨y, f1, f2⟩ := hi.res i k hik
      by_cases hid : i = id
      · rw [hid]; exact ⟨_, updP_same _ _ _, by simp⟩
      · exact ⟨y, (updP_ne _ _ hid).trans f1, f2⟩
    · rcases hpm i y hy with ⟨rfl, rfl⟩ | ⟨e, f⟩
      · exact hi.has i x hx hb0
      · exact hi.has i y f hbb
    · rcases hpm i y hy with ⟨rfl, rfl⟩ | ⟨e, f⟩
      · rw [hp] at hpp; cases hpp
      · exact hi.put i y f hpp
    · rcases hpm i y hy with ⟨rfl, rfl⟩ | ⟨e, f⟩
      · cases hzz
      · exact hi.zer i y B c L f hzz hbb
    · rcases hpm i y hy with ⟨rfl, rfl⟩ | ⟨e, f⟩
      · simp
      · exact hi.dty i y f h1 h2
    · rcases hpm i y hy with ⟨rfl, rfl⟩ | ⟨e, f⟩
      · exact hi.ids i x hx
      · exact hi.ids i y f
  · refine S.off.late (ho.mono (S' := Own d t1) (fun k hk => .inl (.inr (.inr (.inr (.inr (.inr ⟨id, x, hx, hk⟩))))))) (fun i hl hk => ?_)
    rcases S.own i hk with e | e
    · exact e
    · omega
  · intro k hk
    rcases hk with hk | hk
    · rcases own_upd hx hk with e | e
      · exact S.own k (.inl e)
      · rcases e with e | ⟨c1, L1, e⟩
        · exact S.own k (.inl (.inr (.inr (.inr (.inr (.inr ⟨id, x, hx, .inl e⟩))))))
        · cases e
          exact .inr hBB
    · exact S.own k (.inr hk)
end
end Go.Proofs.Ytmipngefpedfpaa
