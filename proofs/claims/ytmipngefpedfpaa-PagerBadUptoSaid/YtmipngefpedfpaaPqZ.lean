/- A pager: Drop, Where, Move. -/
import Derived.Test.YtmipngefpedfpaaPpZ
namespace Go.Proofs.Ytmipngefpedfpaa
open Go.RowKit Go.Maps
set_option linter.unusedVariables false
set_option linter.unusedSimpArgs false

def DrPost {σ : Type} {K : SnkF σ} (M : Snk K) (P : PSnk K) (w : World) (d : PD) (t : PSt σ) (id : Int) (e : Ending) (w' : World) : Prop :=
  ∃ t' er, e = .returned (.int .i64 er) ∧ Stp M P w w' d t t' ∧ ((er = 2 ∧ t.pm id = none ∧ t' = t) ∨ (er = 0 ∧ t.pm id ≠ none ∧ t'.pm = updP t.pm id none ∧ t'.cm = t.cm - 1 ∧ t'.nx = t.nx ∧ t'.hole = t.hole ∧ t'.s = t.s))
section
variable {σ : Type} {K : SnkF σ} {M : Snk K} {P : PSnk K} {w w' w1 w2 w3 w4 w5 : World} {d : PD} {t t' t1 t2 : PSt σ} {id : Int} {x y : Pg} {j : Nat} {z k1 k2 : Nat} {E : Int → Prop}
theorem own_del {pm : Int → Option Pg} {id : Int} {k : Nat} (hk : ownP d (updP pm id none) k) : ownP d pm k := by
  rcases hk with e | e | e | e | e | ⟨i, y, hy, hb⟩
  · exact .inl e
  · exact .inr (.inl e)
  · exact .inr (.inr (.inl e))
  · exact .inr (.inr (.inr (.inl e)))
  · exact .inr (.inr (.inr (.inr (.inl e))))
  · have hy' : (if i = id then none else pm i) = some y := hy
    split at hy'
    · cases hy'
    · exact .inr (.inr (.inr (.inr (.inr ⟨i, y, hy', hb⟩))))
theorem dr_done (hi : PI P d t) (h0 : t.hole = none) (hx : t.pm id = some x) {F' : Nat → Fr} {c' c'' : Nat} (hkv : KInv d.n F' (upd t.g id none)) (hpz : ∀ j, j < d.n → (F' j).pins = 0) (h2 : PgrAt M w2 d { t with F := F', g := upd t.g id none, c := c' }) (ho : Off (Own d t) w w2)
    (hm : MapIs Try.prog 3 w3 d.Mm (pgF (updP t.pm id none)) c'') (ho3 : Off (· = d.Mm) w2 w3) :
    Stp M P w w3 d t { t with F := F', g := upd t.g id none, c := c', pm := updP t.pm id none, hole := none, cm := c'' } := by
  have hsub : ∀ k y, updP t.pm id none k = some y → k ≠ id ∧ t.pm k = some y := fun k y e => by
    unfold updP at e
    split at e
    · cases e
    · rename_i h; exact ⟨h, e⟩
  have hv : visP (updP t.pm id none) none = updP t.pm id none := by
    funext k
    unfold visP
    rw [if_neg (fun e => by cases e)]
  have h3 := h2.setMap (pm' := updP t.pm id none) (hole' := none) (c' := c'') ho3 (by rw [hv]; exact hm) (fun k y e => (hsub k y e).2)
  refine ⟨h3, ⟨hi.inn, hkv, hpz, fun i k hik => ?_, fun i y hy hb => ?_, fun i y hy hpp => ?_, fun i y B c L hy hzz hb => ?_, fun i y hy h1 h2 => ?_, fun i y hy => ?_, (fun i e => by cases e), hi.nx1⟩, ho.trans (ho3.mono fun k e => by rw [e]; exact .inl (.inr (.inr (.inr (.inr (.inl rfl)))))), fun k hk => .inl ?_⟩
  · have hik' : upd t.g id none i = some k := hik
    unfold upd at hik'
    split at hik'
    · cases hik'
    · rename_i hne
      obtain ⟨y, f1, f2⟩ := hi.res i k hik'
      exact ⟨y, (updP_ne _ _ hne).trans f1, f2⟩
  · show upd t.g id none i ≠ none
    unfold upd
    rw [if_neg (hsub i y hy).1]
    exact hi.has i y (hsub i y hy).2 hb
  · exact hi.put i y (hsub i y hy).2 hpp
  · exact hi.zer i y B c L (hsub i y hy).2 hzz hb
  · exact hi.dty i y (hsub i y hy).2 h1 h2
  · obtain ⟨g1, g2, g3⟩ := hi.ids i y (hsub i y hy).2
    exact ⟨g1, g2, fun e => by have := g3 e; rw [h0] at this; cases this⟩
  · rcases hk with hk | hk
    · exact .inl (own_del hk)
    · exact .inr hk
theorem dr_map (h : PgrAt M w d t) (h0 : t.hole = none) (hx : t.pm id = some x) (hid : -9223372036854775808 ≤ id ∧ id ≤ 9223372036854775807) (ty : TypeId) :
    ∃ w', (Builtin.delete_ #[68, 3] ty #[.map (some d.Mm), .int .i64 id]).run Try.prog w = .ok (.tuple #[]) w' ∧ MapIs Try.prog 3 w' d.Mm (pgF (updP t.pm id none)) (t.cm - 1) ∧ Off (· = d.Mm) w w' := by
  obtain ⟨w', h1, h2, h3⟩ := MapIs.del h.mp intKeyed Try.underlying68 (keyOf_int_mk Try.underlying3 (int_wf hid)) ty
  have hv : visP t.pm t.hole = t.pm := funext fun k => vis_none h0 k
  have e1 : (pgF (visP t.pm t.hole) (.int .i64 id)).isSome = true := by rw [hv, pgF_at, hx]; rfl
  rw [e1, if_pos rfl, hv, pgF_del] at h2
  exact ⟨w', h1, h2, h3⟩
theorem upd_none {g : Int → Option Nat} (h : g id = none) : upd g id none = g := by
  funext k
  unfold upd
  split
  · rename_i e; rw [e, h]
  · rfl
set_option maxRecDepth 100000 in
set_option maxHeartbeats 4000000 in
theorem drop_any (h : PgrAt M w d t) (hi : PI P d t) (h0 : t.hole = none) (hid : -9223372036854775808 ≤ id ∧ id ≤ 9223372036854775807) :
    Calls Try.prog 25 #[.pointer (some ⟨d.Q, 0, none⟩), .int .i64 id] w (DrPost M P w d t id) := by
  have hlk := h.look hid
  rw [vis_none h0] at hlk
  have HF := Lib.hid (Find_any h.pool (int_wf hid))
  have H := Lib.hid h
  have HI := Lib.hid hi
  have H0 := Lib.hid h0
  have q0 := h.q0
  have q4 := h.q4
  cases hx : t.pm id with
  | none =>
    rw [hx] at hlk
    have HX := Lib.hid hx
    simp only [pgP, Option.map_none] at hlk
    clear h hi h0 hx
    go_enter Try.func25, Try.ntmps25
    go_wp2
    go_ret
    exact ⟨t, 2, rfl, Stp.refl H.out HI.out, .inl ⟨rfl, HX.out, rfl⟩⟩
  | some x =>
    rw [hx] at hlk
    have HX := Lib.hid hx
    simp only [pgP, Option.map_some] at hlk
    cases hg : t.g id with
    | none =>
      obtain ⟨w3, hrun, hm3, ho3⟩ := dr_map h h0 hx hid 0
      have hug := upd_none hg
      have HE : Hid (DrPost M P w d t id (.returned (.int .i64 0)) w3) := by
        have := dr_done (F' := t.F) (c' := t.c) hi h0 hx (by rw [hug]; exact hi.kv) hi.pz (by rw [hug]; exact h) (Off.refl _ _) hm3 ho3
        exact Lib.hid ⟨_, 0, rfl, this, .inr ⟨rfl, by rw [hx]; simp, rfl, rfl, rfl, h0.symm, rfl⟩⟩
      unfold findV findI at HF
      rw [hg] at HF
      simp only [Option.isSome_none] at HF
      clear h hi h0 hx hg hug hm3 ho3
      go_enter Try.func25, Try.ntmps25
      go_wp2_with fail
      refine HF.out.mono ?_
      rintro e w1 ⟨rfl, rfl⟩
      go_wp2_with (at_delete; go_must (refine wpList_delete_run rfl (.tmp 33) (.tmp 34) 68 3 rfl _ _ rfl rfl hrun ?_))
      clear hrun
      go_wp2
      go_ret
      exact HE.out
    | some j =>
      obtain ⟨hj, hu, hkey⟩ := pi_key hi hg
      have HD := Lib.hid (Drop_yes h.pool j hj hu (by rw [hi.pz j hj]; omega))
      have HG := Lib.hid (show j < d.n ∧ (t.F j).used = true ∧ (t.F j).key = id from ⟨hj, hu, hkey⟩)
      unfold findV findI at HF
      rw [hg] at HF
      simp only [Option.isSome_some] at HF
      clear h hi h0 hx hg hj hu hkey
      go_enter Try.func25, Try.ntmps25
      go_wp2_with fail
      refine HF.out.mono ?_
      rintro e w1 ⟨rfl, rfl⟩
      go_wp2_with fail
      refine HD.out.mono ?_
      rintro e w1 ⟨rfl, ⟨c5, hp5⟩, ho5⟩
      rw [HG.out.2.2] at hp5
      have h2 := H.out.setPool ho5 hp5
      obtain ⟨w3, hrun, hm3, ho3⟩ := dr_map h2 H0.out HX.out hid 0
      have q4' := h2.q4
      have HE : Hid (DrPost M P w d t id (.returned (.int .i64 0)) w3) := by
        have hkv : KInv d.n (putF t.F j Fr.zero) (upd t.g id none) := ⟨by have := Good.drop HI.out.kv.good HG.out.1 HG.out.2.1; rw [HG.out.2.2] at this; exact this, fun i hin => by
          unfold putF
          split
          · simp [Fr.zero]
          · exact HI.out.kv.pins i hin⟩
        have hpz : ∀ i, i < d.n → (putF t.F j Fr.zero i).pins = 0 := fun i hin => by
          unfold putF
          split
          · rfl
          · exact HI.out.pz i hin
        have := dr_done (F' := putF t.F j Fr.zero) (c' := c5) HI.out H0.out HX.out hkv hpz h2 (ho5.mono fun k hk => by
          rcases hk with rfl | rfl | rfl
          · exact .inl (.inr (.inl rfl))
          · exact .inl (.inr (.inr (.inl rfl)))
          · exact .inl (.inr (.inr (.inr (.inl rfl))))) hm3 ho3
        exact Lib.hid ⟨_, 0, rfl, this, .inr ⟨rfl, by rw [HX.out]; simp, rfl, rfl, rfl, H0.out.symm, rfl⟩⟩
      clear h2 hm3 ho3 hp5 ho5 q0 q4 HF HD hlk
      go_wp2_with (at_delete; go_must (refine wpList_delete_run rfl (.tmp 33) (.tmp 34) 68 3 rfl _ _ rfl rfl hrun ?_))
      clear hrun q4'
      go_wp2
      go_ret
      exact HE.out
end
end Go.Proofs.Ytmipngefpedfpaa
