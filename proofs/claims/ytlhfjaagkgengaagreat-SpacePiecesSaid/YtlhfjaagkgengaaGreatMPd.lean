/- A pager: Make, Bring, Pages. A pager: Copy. A pager: Drop, Where, Move. A pager: Save, Evict. -/
import Derived.Test.YtlhfjaagkgengaaGreatMPc
namespace Go.Proofs.YtlhfjaagkgengaaGreat
open Go.RowKit Go.Maps
set_option linter.unusedVariables false
set_option linter.unusedSimpArgs false

section
variable {σ : Type} {K : SnkF σ} {M : Snk K} {P : PSnk K} {w w' w1 w2 w3 w4 w5 : World} {d : PD} {t t' t1 t2 : PSt σ} {id : Int} {x : Pg} {j : Nat} {z k1 k2 : Nat} {E : Int → Prop}
theorem PgAt.new (w : World) (z : Nat) (a : Int × Int) (p o : Bool) (u : Int) : PgAt (w.alloc (.cells #[.slice none 0 0, .int .i64 a.1, .int .i64 a.2, .bool p, .bool o, .int .i64 u] 151)) z ⟨w.heap.size, none, a, p, o, u⟩ := by
  have hc : ∀ k v, (#[.slice none 0 0, .int .i64 a.1, .int .i64 a.2, .bool p, .bool o, .int .i64 u] : Array Value)[k]? = some v → (w.alloc (.cells #[.slice none 0 0, .int .i64 a.1, .int .i64 a.2, .bool p, .bool o, .int .i64 u] 151)).cell? ⟨w.heap.size, k, none⟩ = some v := fun k v hv => by
    rw [cell_of_row _ _ _ _ _ _ (heap_alloc_new w _)]; exact hv
  refine ⟨hc 0 _ rfl, hc 1 _ rfl, hc 2 _ rfl, hc 3 _ rfl, hc 4 _ rfl, hc 5 _ rfl, fun k => ?_, fun B c L e => by cases e⟩
  unfold World.frozen?
  rw [heap_alloc_new]
  simp
/-- A page that nobody knows yet: the step. -/
theorem virt_stp (hK : K.Good) (h : PgrAt M w d t) (hi : PI P d t) (h0 : t.hole = none) (hb : Below w.heap.size w w1) (hp : PgAt w1 d.z x) (hbb : x.bb = none) (hX : w.heap.size ≤ x.X) (hpz : x.put = true → x.zero = true → P.rd t.s x.at_ = some (zeros d.z)) (hz : x.put = true ∨ x.zero = true) :
    Stp M P w w1 d t { t with pm := updP t.pm t.nx (some x), hole := some (t.nx : Int) } ∧ Ev P d.z 0 (· = (t.nx : Int)) t { t with pm := updP t.pm t.nx (some x), hole := some (t.nx : Int) } := by
  have hn := pm_next hi h0
  have hnew : ∀ k, x.blk k → ¬ ownP d t.pm k ∧ ¬ t.O k := fun k hk => by
    rcases hk with rfl | ⟨c, L, e⟩
    · exact own_new h hX
    · rw [hbb] at e; cases e
  refine ⟨⟨(h.up hb).virt h0 hn hp hnew, pi_virt hi h0 hbb hpz hz, Off.of_below hb, fun k hk => ?_⟩, fun i he hi => (updP_ne _ _ he).trans hi, fun i y he hy => ⟨y, (updP_ne _ _ he).trans hy, rfl, rfl, rfl, fun h => ⟨h, rfl⟩, fun L hL => hL⟩, SubR.refl _, Nat.le_refl _, fun _ => rfl, fun h => h, fun n h => h⟩
  rcases hk with hk | hk
  · rcases hk with e | e | e | e | e | ⟨i, y, hy, hb⟩
    · exact .inl (.inl (.inl e))
    · exact .inl (.inl (.inr (.inl e)))
    · exact .inl (.inl (.inr (.inr (.inl e))))
    · exact .inl (.inl (.inr (.inr (.inr (.inl e)))))
    · exact .inl (.inl (.inr (.inr (.inr (.inr (.inl e))))))
    · have hy' : (if i = (t.nx : Int) then some x else t.pm i) = some y := hy
      split at hy'
      · cases hy'
        rcases hb with rfl | ⟨c, L, e⟩
        · exact .inr hX
        · rw [hbb] at e; cases e
      · exact .inl (.inl (.inr (.inr (.inr (.inr (.inr ⟨i, y, hy', hb⟩))))))
  · exact .inl (.inr hk)
/-- A page more. -/
structure Mk {σ : Type} {K : SnkF σ} (P : PSnk K) (z k : Nat) (t t' : PSt σ) (y : Pg) : Prop where
  ev : Ev P z k (· = (t.nx : Int)) t t'
  pg : t'.pm t.nx = some y
  nx : t'.nx = t.nx + 1
  hole : t'.hole = none
  cm : t'.cm = t.cm + 1
def MkPost (M : Snk K) (P : PSnk K) (w : World) (d : PD) (t : PSt σ) (a : Int × Int) (p o : Bool) (e : Ending) (w' : World) : Prop :=
  ∃ t' y, e = .returned (.int .i64 (t.nx : Nat)) ∧ Stp M P w w' d t t' ∧ Mk P d.z 0 t t' y ∧ y.bb = none ∧ y.at_ = a ∧ y.put = p ∧ y.zero = o ∧ y.uses = 0 ∧ t'.s = t.s
theorem mk_done (hK : K.Good) (h : PgrAt M w d t) (hi : PI P d t) (h0 : t.hole = none) (hn : t.nx < 4611686018427387904) (a : Int × Int) (p o : Bool) (hb : Below w.heap.size w w1) (hpz : p = true → o = true → P.rd t.s a = some (zeros d.z)) (hz : p = true ∨ o = true) :
    Calls Tryz.prog 146 #[.pointer (some ⟨d.Q, 0, none⟩), .pointer (some ⟨w1.heap.size, 0, none⟩)] (w1.alloc (.cells #[.slice none 0 0, .int .i64 a.1, .int .i64 a.2, .bool p, .bool o, .int .i64 0] 151)) (MkPost M P w d t a p o) := by
  obtain ⟨S, E⟩ := virt_stp (x := ⟨w1.heap.size, none, a, p, o, 0⟩) hK h hi h0 (hb.alloc hb.size _) (PgAt.new w1 d.z a p o 0) rfl hb.size hpz hz
  refine (add_any S.at_ S.inv rfl (updP_same _ _ _) hn).mono ?_
  rintro e w' ⟨_, rfl, S2⟩
  exact ⟨_, ⟨w1.heap.size, none, a, p, o, 0⟩, rfl, S.trans S2, ⟨⟨E.no, E.pg, E.sub, E.cnt, E.keep, E.room, E.rdy⟩, updP_same _ _ _, rfl, rfl, rfl⟩, rfl, rfl, rfl, rfl, rfl, rfl⟩
set_option maxRecDepth 100000 in
set_option maxHeartbeats 1000000 in
theorem make_any (hK : K.Good) (h : PgrAt M w d t) (hi : PI P d t) (h0 : t.hole = none) (hn : t.nx < 4611686018427387904) :
    Calls Tryz.prog 105 #[.pointer (some ⟨d.Q, 0, none⟩)] w (MkPost M P w d t (0, 0) false true) := by
  have HA := Lib.hid (mk_done hK h hi h0 hn (0, 0) false true (Below.refl _ _) (fun e => by cases e) (.inr rfl))
  clear h hi h0
  go_enter Tryz.func105, Tryz.ntmps105
  go_wp2_with fail
  refine HA.out.mono ?_
  rintro e w1 ⟨t1, y, rfl, h1⟩
  have H1 := Lib.hid h1
  clear h1 HA
  go_wp2
  go_ret
  exact ⟨t1, y, rfl, H1.out⟩
set_option maxRecDepth 100000 in
set_option maxHeartbeats 1000000 in
theorem pages_any (h : PgrAt M w d t) : Calls Tryz.prog 28 #[.pointer (some ⟨d.Q, 0, none⟩)] w fun e w' => e = .returned (.int .i64 (t.cm : Nat)) ∧ w = w' := by
  have q4 := h.q4
  have hl := fun ty => MapIs.len h.mp Tryz.underlying142 ty
  clear h
  go_enter Tryz.func28, Tryz.ntmps28
  go_wp2
  go_ret
  exact ⟨rfl, rfl⟩
end
end Go.Proofs.YtlhfjaagkgengaaGreat
namespace Go.Proofs.YtlhfjaagkgengaaGreat
open Go.RowKit Go.Maps
set_option linter.unusedVariables false
set_option linter.unusedSimpArgs false

def CpPost {σ : Type} {K : SnkF σ} {M : Snk K} (P : PSnk K) (w : World) (d : PD) (t : PSt σ) (id : Int) (e : Ending) (w' : World) : Prop :=
  ∃ t' r er, e = .returned (.tuple #[.int .i64 r, .int .i64 er]) ∧ Stp M P w w' d t t' ∧
    ((er = 0 ∧ r = t.nx ∧ ∃ x y, t.pm id = some x ∧ Mk P d.z 1 t t' y ∧ y.uses = 0 ∧ ∀ L, cont (P.rd t.s) d.z x = some L → cont (P.rd t'.s) d.z y = some L) ∨
     (Num t t' ∧ Ev P d.z 1 none9 t t' ∧ r = 0 ∧ ((er = 2 ∧ t.pm id = none) ∨ (er = P.ez ∧ P.room t.s = 0 ∧ t.pm id ≠ none))))
section
variable {σ : Type} {K : SnkF σ} {M : Snk K} {P : PSnk K} {w w' w1 w2 w3 w4 w5 : World} {d : PD} {t t' t1 t2 : PSt σ} {id : Int} {x y : Pg} {j : Nat} {z k1 k2 : Nat} {E : Int → Prop}
theorem cp_cont (hi : PI P d t) (hx : t.pm id = some x) (hpz : x.put = true ∨ x.zero = true) (hl : ∀ B c L, x.bb = some (B, c, L) → L.length = d.z) {y : Pg} (hb : y.bb = none) (ha : y.at_ = x.at_) (hp : y.put = x.put) (hz : y.zero = x.zero) {L : Bytes} (hL : cont (P.rd t.s) d.z x = some L) : cont (P.rd t.s) d.z y = some L := by
  unfold cont at hL ⊢
  rw [hb]
  simp only
  rw [hz, ha]
  cases hbb : x.bb with
  | none => rw [hbb] at hL; exact hL
  | some v =>
    obtain ⟨B, c, L'⟩ := v
    rw [hbb] at hL
    simp only [Option.some.injEq] at hL
    subst hL
    cases hzz : x.zero with
    | true => rw [if_pos rfl, hi.zer id x B c L' hx hzz hbb]
    | false =>
      have hpp : x.put = true := by
        rcases hpz with h | h
        · exact h
        · rw [hzz] at h; cases h
      rw [(hi.put id x hx hpp).1 B c L' hbb]
      simp [hl B c L' hbb]
/-- The page that nobody knows is let go. -/
theorem unvirt (h : PgrAt M w d t) (hi : PI P d t) (hh : t.hole = some (t.nx : Int)) (hg : t.g t.nx = none) : PgrAt M w d { t with pm := updP t.pm t.nx none, hole := none } ∧ PI P d { t with pm := updP t.pm t.nx none, hole := none } := by
  have hsub : ∀ k y, updP t.pm t.nx none k = some y → k ≠ t.nx ∧ t.pm k = some y := fun k y e => by
    unfold updP at e
    split at e
    · cases e
    · rename_i h; exact ⟨h, e⟩
  refine ⟨h.setMap (pm' := updP t.pm t.nx none) (hole' := none) (Off.refl _ _) ?_ (fun k y e => (hsub k y e).2), hi.inn, hi.kv, hi.pz, fun i k hik => ?_, fun i y hy hb => ?_, fun i y hy hpp => ?_, fun i y B c L hy hzz hb => ?_, fun i y hy h1 h2 => ?_, fun i y hy => ?_, (fun i e => by cases e), hi.nx1⟩
  · have e : pgF (visP (updP t.pm t.nx none) none) = pgF (visP t.pm t.hole) := pgF_congr fun k => by
      unfold visP updP
      rw [hh, if_neg (show ¬ some k = none from fun e => by cases e)]
      by_cases hk : k = t.nx
      · rw [if_pos hk, if_pos (by rw [hk])]
      · rw [if_neg hk, if_neg (fun e => hk (Option.some.inj e))]
    rw [e]
    exact h.mp
  · obtain ⟨y, f1, f2⟩ := hi.res i k hik
    exact ⟨y, (updP_ne _ _ (fun e => by have hik' : t.g i = some k := hik; rw [e, hg] at hik'; cases hik')).trans f1, f2⟩
  · exact hi.has i y (hsub i y hy).2 hb
  · exact hi.put i y (hsub i y hy).2 hpp
  · exact hi.zer i y B c L (hsub i y hy).2 hzz hb
  · exact hi.dty i y (hsub i y hy).2 h1 h2
  · obtain ⟨g1, g2, g3⟩ := hi.ids i y (hsub i y hy).2
    exact ⟨g1, g2, fun e => absurd e (hsub i y hy).1⟩
theorem ByAt.bsl {B c : Nat} {L : Bytes} (h : ByAt w z B c L) : Value.slice (some ⟨B, 0, none⟩) z c = .slice (some ⟨B, 0, none⟩) L.length c := by rw [h.len]
/-- Other bytes are laid into the page that nobody knows. -/
theorem cp_lay (hK : K.Good) {w0 : World} {t0 : PSt σ} (S : Stp M P w0 w1 d t0 t1) (hx : t1.pm id = some x) (hb0 : x.bb ≠ none) {B c : Nat} {L : Bytes} (hby : ByAt w1 d.z B c L) (hB : ¬ Own d t1 B) (hBB : w0.heap.size ≤ B) (hp : x.put = false) :
    Stp M P w0 ((w1.setCell ⟨x.X, 0, none⟩ (.slice (some ⟨B, 0, none⟩) d.z c)).setCell ⟨x.X, 4, none⟩ (.bool false)) d t0 { t1 with pm := updP t1.pm id (some { x with bb := some (B, c, L), zero := false }) } := by
  have h1 := S.at_
  have hi := S.inv
  have hz := h1.zs.1
  have hpg := h1.pg id x hx
  have hXB : B ≠ x.X := fun e => hB (.inl (.inr (.inr (.inr (.inr (.inr ⟨id, x, hx, .inl e⟩))))))
  have hp2 : PgAt (w1.setCell ⟨x.X, 0, none⟩ (.slice (some ⟨B, 0, none⟩) d.z c)) d.z { x with bb := some (B, c, L) } := hpg.set (k := 0) (x' := { x with bb := some (B, c, L) }) rfl (by unfold Pg.bv; simp [hby.len]) rfl rfl rfl rfl rfl (fun B' c' L' e => by
    cases e
    exact hby.off hz ((Off.refl (· = x.X) w1).setCell (p := ⟨x.X, 0, none⟩) rfl _) hXB)
  have hp3 := hp2.set (k := 4) (v := .bool false) (x' := { x with bb := some (B, c, L), zero := false }) rfl rfl rfl rfl rfl rfl rfl (fun B c L e => hp2.bsX hz e)
  have ho : Off x.blk w1 ((w1.setCell ⟨x.X, 0, none⟩ (.slice (some ⟨B, 0, none⟩) d.z c)).setCell ⟨x.X, 4, none⟩ (.bool false)) := ((Off.refl x.blk w1).setCell (p := ⟨x.X, 0, none⟩) (.inl rfl) _).setCell (p := ⟨x.X, 4, none⟩) (.inl rfl) _
  have h4 := h1.setPage (id := id) (x := x) (x' := { x with bb := some (B, c, L), zero := false }) hx rfl (fun k hk => by
    rcases hk with e | ⟨c1, L1, e⟩
    · exact .inl (.inl e)
    · cases e
      exact .inr ⟨fun e => hB (.inl e), fun e => hB (.inr e)⟩) ho hp3
  have hpm : ∀ i y, updP t1.pm id (some { x with bb := some (B, c, L), zero := false }) i = some y → (i = id ∧ y = { x with bb := some (B, c, L), zero := false }) ∨ (i ≠ id ∧ t1.pm i = some y) := fun i y e => by
    unfold updP at e
    split at e
    · rename_i h; exact .inl ⟨h, (Option.some.inj e).symm⟩
    · rename_i h; exact .inr ⟨h, e⟩
  refine ⟨h4, ?_, ?_, ?_⟩
  · refine ⟨hi.inn, hi.kv, hi.pz, fun i k hik => ?_, fun i y hy hbb => ?_, fun i y hy hpp => ?_, fun i y B c L hy hzz hbb => ?_, fun i y hy h1 h2 => ?_, fun i y hy => ?_, hi.hol, hi.nx1⟩
    · obtain ⟨y, f1, f2⟩ := hi.res i k hik
      by_cases hid : i = id
      · rw [hid]; exact ⟨_, updP_same _ _ _, by simp⟩
      · exact ⟨y, (updP_ne _ _ hid).trans f1, f2⟩
    · rcases hpm i y hy with ⟨rfl, rfl⟩ | ⟨e, f⟩
      · exact hi.has i x hx hb0
      · exact hi.has i y f hbb
    · rcases hpm i y hy with ⟨rfl, rfl⟩ | ⟨e, f⟩
      · rw [hp] at hpp; cases hpp
      · exact hi.put i y f hpp
    · rcases hpm i y hy with ⟨rfl, rfl⟩ | ⟨e, f⟩
      · cases hzz
      · exact hi.zer i y B c L f hzz hbb
    · rcases hpm i y hy with ⟨rfl, rfl⟩ | ⟨e, f⟩
      · simp
      · exact hi.dty i y f h1 h2
    · rcases hpm i y hy with ⟨rfl, rfl⟩ | ⟨e, f⟩
      · exact hi.ids i x hx
      · exact hi.ids i y f
  · refine S.off.late (ho.mono (S' := Own d t1) (fun k hk => .inl (.inr (.inr (.inr (.inr (.inr ⟨id, x, hx, hk⟩))))))) (fun i hl hk => ?_)
    rcases S.own i hk with e | e
    · exact e
    · omega
  · intro k hk
    rcases hk with hk | hk
    · rcases own_upd hx hk with e | e
      · exact S.own k (.inl e)
      · rcases e with e | ⟨c1, L1, e⟩
        · exact S.own k (.inl (.inr (.inr (.inr (.inr (.inr ⟨id, x, hx, .inl e⟩))))))
        · cases e
          exact .inr hBB
    · exact S.own k (.inr hk)
end
end Go.Proofs.YtlhfjaagkgengaaGreat
namespace Go.Proofs.YtlhfjaagkgengaaGreat
open Go.RowKit Go.Maps
set_option linter.unusedVariables false
set_option linter.unusedSimpArgs false

def DrPost {σ : Type} {K : SnkF σ} (M : Snk K) (P : PSnk K) (w : World) (d : PD) (t : PSt σ) (id : Int) (e : Ending) (w' : World) : Prop :=
  ∃ t' er, e = .returned (.int .i64 er) ∧ Stp M P w w' d t t' ∧ ((er = 2 ∧ t.pm id = none ∧ t' = t) ∨ (er = 0 ∧ t.pm id ≠ none ∧ t'.pm = updP t.pm id none ∧ t'.cm = t.cm - 1 ∧ t'.nx = t.nx ∧ t'.hole = t.hole ∧ t'.s = t.s))
section
variable {σ : Type} {K : SnkF σ} {M : Snk K} {P : PSnk K} {w w' w1 w2 w3 w4 w5 : World} {d : PD} {t t' t1 t2 : PSt σ} {id : Int} {x y : Pg} {j : Nat} {z k1 k2 : Nat} {E : Int → Prop}
theorem own_del {pm : Int → Option Pg} {id : Int} {k : Nat} (hk : ownP d (updP pm id none) k) : ownP d pm k := by
  rcases hk with e | e | e | e | e | ⟨i, y, hy, hb⟩
  · exact .inl e
  · exact .inr (.inl e)
  · exact .inr (.inr (.inl e))
  · exact .inr (.inr (.inr (.inl e)))
  · exact .inr (.inr (.inr (.inr (.inl e))))
  · have hy' : (if i = id then none else pm i) = some y := hy
    split at hy'
    · cases hy'
    · exact .inr (.inr (.inr (.inr (.inr ⟨i, y, hy', hb⟩))))
theorem dr_done (hi : PI P d t) (h0 : t.hole = none) (hx : t.pm id = some x) {F' : Nat → Fr} {c' c'' : Nat} (hkv : KInv d.n F' (upd t.g id none)) (hpz : ∀ j, j < d.n → (F' j).pins = 0) (h2 : PgrAt M w2 d { t with F := F', g := upd t.g id none, c := c' }) (ho : Off (Own d t) w w2)
    (hm : MapIs Tryz.prog 3 w3 d.Mm (pgF (updP t.pm id none)) c'') (ho3 : Off (· = d.Mm) w2 w3) :
    Stp M P w w3 d t { t with F := F', g := upd t.g id none, c := c', pm := updP t.pm id none, hole := none, cm := c'' } := by
  have hsub : ∀ k y, updP t.pm id none k = some y → k ≠ id ∧ t.pm k = some y := fun k y e => by
    unfold updP at e
    split at e
    · cases e
    · rename_i h; exact ⟨h, e⟩
  have hv : visP (updP t.pm id none) none = updP t.pm id none := by
    funext k
    unfold visP
    rw [if_neg (fun e => by cases e)]
  have h3 := h2.setMap (pm' := updP t.pm id none) (hole' := none) (c' := c'') ho3 (by rw [hv]; exact hm) (fun k y e => (hsub k y e).2)
  refine ⟨h3, ⟨hi.inn, hkv, hpz, fun i k hik => ?_, fun i y hy hb => ?_, fun i y hy hpp => ?_, fun i y B c L hy hzz hb => ?_, fun i y hy h1 h2 => ?_, fun i y hy => ?_, (fun i e => by cases e), hi.nx1⟩, ho.trans (ho3.mono fun k e => by rw [e]; exact .inl (.inr (.inr (.inr (.inr (.inl rfl)))))), fun k hk => .inl ?_⟩
  · have hik' : upd t.g id none i = some k := hik
    unfold upd at hik'
    split at hik'
    · cases hik'
    · rename_i hne
      obtain ⟨y, f1, f2⟩ := hi.res i k hik'
      exact ⟨y, (updP_ne _ _ hne).trans f1, f2⟩
  · show upd t.g id none i ≠ none
    unfold upd
    rw [if_neg (hsub i y hy).1]
    exact hi.has i y (hsub i y hy).2 hb
  · exact hi.put i y (hsub i y hy).2 hpp
  · exact hi.zer i y B c L (hsub i y hy).2 hzz hb
  · exact hi.dty i y (hsub i y hy).2 h1 h2
  · obtain ⟨g1, g2, g3⟩ := hi.ids i y (hsub i y hy).2
    exact ⟨g1, g2, fun e => by have := g3 e; rw [h0] at this; cases this⟩
  · rcases hk with hk | hk
    · exact .inl (own_del hk)
    · exact .inr hk
theorem dr_map (h : PgrAt M w d t) (h0 : t.hole = none) (hx : t.pm id = some x) (hid : -9223372036854775808 ≤ id ∧ id ≤ 9223372036854775807) (ty : TypeId) :
    ∃ w', (Builtin.delete_ #[142, 3] ty #[.map (some d.Mm), .int .i64 id]).run Tryz.prog w = .ok (.tuple #[]) w' ∧ MapIs Tryz.prog 3 w' d.Mm (pgF (updP t.pm id none)) (t.cm - 1) ∧ Off (· = d.Mm) w w' := by
  obtain ⟨w', h1, h2, h3⟩ := MapIs.del h.mp intKeyed Tryz.underlying142 (keyOf_int_mk Tryz.underlying3 (int_wf hid)) ty
  have hv : visP t.pm t.hole = t.pm := funext fun k => vis_none h0 k
  have e1 : (pgF (visP t.pm t.hole) (.int .i64 id)).isSome = true := by rw [hv, pgF_at, hx]; rfl
  rw [e1, if_pos rfl, hv, pgF_del] at h2
  exact ⟨w', h1, h2, h3⟩
theorem upd_none {g : Int → Option Nat} (h : g id = none) : upd g id none = g := by
  funext k
  unfold upd
  split
  · rename_i e; rw [e, h]
  · rfl
set_option maxRecDepth 100000 in
set_option maxHeartbeats 4000000 in
theorem drop_any (h : PgrAt M w d t) (hi : PI P d t) (h0 : t.hole = none) (hid : -9223372036854775808 ≤ id ∧ id ≤ 9223372036854775807) :
    Calls Tryz.prog 64 #[.pointer (some ⟨d.Q, 0, none⟩), .int .i64 id] w (DrPost M P w d t id) := by
  have hlk := h.look hid
  rw [vis_none h0] at hlk
  have HF := Lib.hid (Find_any h.pool (int_wf hid))
  have H := Lib.hid h
  have HI := Lib.hid hi
  have H0 := Lib.hid h0
  have q0 := h.q0
  have q4 := h.q4
  cases hx : t.pm id with
  | none =>
    rw [hx] at hlk
    have HX := Lib.hid hx
    simp only [pgP, Option.map_none] at hlk
    clear h hi h0 hx
    go_enter Tryz.func64, Tryz.ntmps64
    go_wp2
    go_ret
    exact ⟨t, 2, rfl, Stp.refl H.out HI.out, .inl ⟨rfl, HX.out, rfl⟩⟩
  | some x =>
    rw [hx] at hlk
    have HX := Lib.hid hx
    simp only [pgP, Option.map_some] at hlk
    cases hg : t.g id with
    | none =>
      obtain ⟨w3, hrun, hm3, ho3⟩ := dr_map h h0 hx hid 0
      have hug := upd_none hg
      have HE : Hid (DrPost M P w d t id (.returned (.int .i64 0)) w3) := by
        have := dr_done (F' := t.F) (c' := t.c) hi h0 hx (by rw [hug]; exact hi.kv) hi.pz (by rw [hug]; exact h) (Off.refl _ _) hm3 ho3
        exact Lib.hid ⟨_, 0, rfl, this, .inr ⟨rfl, by rw [hx]; simp, rfl, rfl, rfl, h0.symm, rfl⟩⟩
      unfold findV findI at HF
      rw [hg] at HF
      simp only [Option.isSome_none] at HF
      clear h hi h0 hx hg hug hm3 ho3
      go_enter Tryz.func64, Tryz.ntmps64
      go_wp2_with fail
      refine HF.out.mono ?_
      rintro e w1 ⟨rfl, rfl⟩
      go_wp2_with (at_delete; go_must (refine wpList_delete_run rfl (.tmp 33) (.tmp 34) 142 3 rfl _ _ rfl rfl hrun ?_))
      clear hrun
      go_wp2
      go_ret
      exact HE.out
    | some j =>
      obtain ⟨hj, hu, hkey⟩ := pi_key hi hg
      have HD := Lib.hid (Drop_yes h.pool j hj hu (by rw [hi.pz j hj]; omega))
      have HG := Lib.hid (show j < d.n ∧ (t.F j).used = true ∧ (t.F j).key = id from ⟨hj, hu, hkey⟩)
      unfold findV findI at HF
      rw [hg] at HF
      simp only [Option.isSome_some] at HF
      clear h hi h0 hx hg hj hu hkey
      go_enter Tryz.func64, Tryz.ntmps64
      go_wp2_with fail
      refine HF.out.mono ?_
      rintro e w1 ⟨rfl, rfl⟩
      go_wp2_with fail
      refine HD.out.mono ?_
      rintro e w1 ⟨rfl, ⟨c5, hp5⟩, ho5⟩
      rw [HG.out.2.2] at hp5
      have h2 := H.out.setPool ho5 hp5
      obtain ⟨w3, hrun, hm3, ho3⟩ := dr_map h2 H0.out HX.out hid 0
      have q4' := h2.q4
      have HE : Hid (DrPost M P w d t id (.returned (.int .i64 0)) w3) := by
        have hkv : KInv d.n (putF t.F j Fr.zero) (upd t.g id none) := ⟨by have := Good.drop HI.out.kv.good HG.out.1 HG.out.2.1; rw [HG.out.2.2] at this; exact this, fun i hin => by
          unfold putF
          split
          · simp [Fr.zero]
          · exact HI.out.kv.pins i hin⟩
        have hpz : ∀ i, i < d.n → (putF t.F j Fr.zero i).pins = 0 := fun i hin => by
          unfold putF
          split
          · rfl
          · exact HI.out.pz i hin
        have := dr_done (F' := putF t.F j Fr.zero) (c' := c5) HI.out H0.out HX.out hkv hpz h2 (ho5.mono fun k hk => by
          rcases hk with rfl | rfl | rfl
          · exact .inl (.inr (.inl rfl))
          · exact .inl (.inr (.inr (.inl rfl)))
          · exact .inl (.inr (.inr (.inr (.inl rfl))))) hm3 ho3
        exact Lib.hid ⟨_, 0, rfl, this, .inr ⟨rfl, by rw [HX.out]; simp, rfl, rfl, rfl, H0.out.symm, rfl⟩⟩
      clear h2 hm3 ho3 hp5 ho5 q0 q4 HF HD hlk
      go_wp2_with (at_delete; go_must (refine wpList_delete_run rfl (.tmp 33) (.tmp 34) 142 3 rfl _ _ rfl rfl hrun ?_))
      clear hrun q4'
      go_wp2
      go_ret
      exact HE.out
end
end Go.Proofs.YtlhfjaagkgengaaGreat
namespace Go.Proofs.YtlhfjaagkgengaaGreat
open Go.RowKit Go.Maps
set_option linter.unusedVariables false
set_option linter.unusedSimpArgs false

def SaPost {σ : Type} {K : SnkF σ} (M : Snk K) (P : PSnk K) (w : World) (d : PD) (t : PSt σ) (id : Int) (e : Ending) (w' : World) : Prop :=
  ∃ t' a er, e = .returned (.tuple #[addrV a, .int .i64 er]) ∧ Stp M P w w' d t t' ∧ Ev P d.z 1 none9 t t' ∧ Num t t' ∧
    ((er = 2 ∧ t.pm id = none) ∨ (er = P.ez ∧ P.room t.s = 0 ∧ t.pm id ≠ none) ∨
      (er = 0 ∧ ∃ x, t.pm id = some x ∧ t'.pm id = some { x with at_ := a, put := true } ∧ (∀ L, cont (P.rd t.s) d.z x = some L → P.rd t'.s a = some L) ∧ (x.put = true → P.cnt t'.s = P.cnt t.s)))
/-- Where a page stands. -/
def whA (x : Option Pg) : (Int × Int) × Bool := match x with
  | some x => if x.put then (x.at_, true) else ((0, 0), false)
  | none => ((0, 0), false)

section
variable {σ : Type} {K : SnkF σ} {M : Snk K} {P : PSnk K} {w w' w1 w2 w3 w4 w5 : World} {d : PD} {t t' t1 t2 : PSt σ} {id : Int} {x y : Pg} {j : Nat} {z k1 k2 : Nat} {E : Int → Prop}
theorem ev_same (h : Ev P z k1 E t t1) (hp : t2.pm = t1.pm) (hs : t2.s = t1.s) : Ev P z k1 E t t2 :=
  ⟨fun i he hi => by rw [hp]; exact h.no i he hi, fun i y he hy => by rw [hp, hs]; exact h.pg i y he hy, by rw [hs]; exact h.sub, by rw [hs]; exact h.cnt, fun hk => by rw [hs]; exact h.keep hk, fun hr => by rw [hs]; exact h.room hr, fun n hn => by rw [hs]; exact h.rdy n hn⟩
/-- A box of the call's own has been stored to. -/
theorem sa_done {g : Nat} {v0 v1 : Value} (S : Stp M P w w1 d t t1) (S2 : Stp M P w1 w2 d t1 t2) (hg : ¬ Own d t1 g) (hw : w.heap.size ≤ g) (hl : g < w1.heap.size) : Stp M P w ((w2.setCell ⟨g, 0, none⟩ v0).setCell ⟨g, 1, none⟩ v1) d t t2 := by
  have S3 := S.trans S2
  have hg2 : ¬ Own d t2 g := fun e => by
    rcases S2.own g e with e | e
    · exact hg e
    · omega
  have ho : Off (· = g) w2 ((w2.setCell ⟨g, 0, none⟩ v0).setCell ⟨g, 1, none⟩ v1) := ((Off.refl (· = g) w2).setCell (p := ⟨g, 0, none⟩) rfl v0).setCell (p := ⟨g, 1, none⟩) rfl v1
  refine ⟨?_, S3.inv, S3.off.late ho (fun i hi e => by omega), S3.own⟩
  exact S3.at_.off ho (fun k hk e => hg2 (by rw [← e]; exact .inl hk)) (M.off S3.at_.at_ ho (fun k e hk => hg2 (by rw [← e]; exact .inr hk))) (fun _ => .inl)
set_option maxRecDepth 100000 in
set_option maxHeartbeats 4000000 in
theorem savep_any (hK : K.Good) (hmi : P.Miss) (h : PgrAt M w d t) (hi : PI P d t) (h0 : t.hole = none) (hid : -9223372036854775808 ≤ id ∧ id ≤ 9223372036854775807) (hrd : K.Rdy t.s 1) :
    Calls Tryz.prog 93 #[.pointer (some ⟨d.Q, 0, none⟩), .int .i64 id] w (SaPost M P w d t id) := by
  have hb : Below w.heap.size w (w.alloc (.cells #[.int .i64 0, .int .i64 0] 149)) := (Below.refl _ _).alloc (Nat.le_refl _) _
  have h1 := h.up hb
  have hlk := h1.look hid
  rw [vis_none h0] at hlk
  have q4 := h.q4
  have lQ := h.ltQ
  have hbx := BoxA.new w 149 (0, 0)
  cases hx : t.pm id with
  | none =>
    rw [hx] at hlk
    simp only [pgP, Option.map_none] at hlk
    have HG : Hid (∀ W, Below w.heap.size w W → SaPost M P w d t id (.returned (.tuple #[.agg #[.int .i64 0, .int .i64 0], .int .i64 2])) W) := Lib.hid fun W hb => ⟨t, (0, 0), 2, rfl, Stp.below h hi hb, Ev.refl hK t, Num.refl t, .inl ⟨rfl, hx⟩⟩
    clear h hx hb h0 hi h1 hrd
    go_enter Tryz.func93, Tryz.ntmps93
    go_wp2
    refine bodyPost_ret (results_addr rfl _ _ _ _ _ rfl hbx.1 hbx.2.1) rfl ?_
    exact HG.out _ (by go_grown)
  | some x =>
    rw [hx] at hlk
    simp only [pgP, Option.map_some] at hlk
    have HSV := Lib.hid (save_any hK hmi h1 hi hx hrd)
    have hnO : ¬ Own d t w.heap.size := fun e => by have := h.ltO e; omega
    have HB := Lib.hid (Stp.below h hi hb)
    have HX := Lib.hid hx
    have HBX := Lib.hid hbx
    have HNO := Lib.hid hnO
    have b0 := hbx.1
    have b1 := hbx.2.1
    have hbl := hbx.lt
    clear h hx hb h0 hi h1 hrd hnO hbx
    go_enter Tryz.func93, Tryz.ntmps93
    go_wp2_with fail
    refine HSV.out.mono ?_
    rintro e w1 ⟨t1, er, rfl, S1, E1, N1, eF, eg, eh, ⟨rfl, a, e4, e5, e6⟩ | ⟨rfl, e4, e5⟩⟩
    · have S := Lib.hid (HB.out.trans S1)
      have E := Lib.hid E1
      have N := Lib.hid N1
      have HX1 : Hid (t1.pm id = some { x with at_ := a, put := true }) := Lib.hid (by rw [e4]; exact updP_same _ _ _)
      have H5 := Lib.hid e5
      have H6 := Lib.hid (fun hp => (e6 hp).2)
      have HBX1 := Lib.hid (HBX.out.off S1.off HNO.out)
      have q0 := S1.at_.q0
      have hF := Find_any S1.at_.pool (int_wf hid)
      have hnO1 : ¬ Own d t1 w.heap.size := fun e => by
        rcases S1.own _ e with e | e
        · exact HNO.out e
        · simp at e; omega
      have HNO1 := Lib.hid hnO1
      have HGL := Lib.hid (show w.heap.size < w1.heap.size from HBX1.out.lt)
      have HBR : Hid (∀ t2 W, Stp M P w1 W d t1 t2 → t2.pm = t1.pm → t2.s = t1.s → Num t1 t2 → SaPost M P w d t id (.returned (.tuple #[.agg #[.int .i64 a.1, .int .i64 a.2], .int .i64 0])) ((W.setCell ⟨w.heap.size, 0, none⟩ (.int .i64 a.1)).setCell ⟨w.heap.size, 1, none⟩ (.int .i64 a.2))) := Lib.hid fun t2 W hs hp hss hnum => by
        refine ⟨t2, a, 0, rfl, sa_done S.out hs HNO1.out (Nat.le_refl _) HGL.out, ev_same E.out hp hss, N.out.trans hnum, .inr (.inr ⟨rfl, x, HX.out, by rw [hp]; exact HX1.out, fun L hL => by rw [hss]; exact H5.out L hL, fun hpp => by rw [hss]; exact H6.out hpp⟩)⟩
      clear S1 E1 N1 e4 e5 e6 hlk q4 lQ HSV b0 b1 hnO1 eF eg eh
      cases hg : t1.g id with
      | none =>
        unfold findV findI at hF
        rw [hg] at hF
        simp only [Option.isSome_none] at hF
        have HF := Lib.hid hF
        have p1 := (S.out.at_.pg id _ HX1.out).c1
        have p2 := (S.out.at_.pg id _ HX1.out).c2
        have b0 := HBX1.out.1
        have b1 := HBX1.out.2.1
        have f0 := HBX1.out.2.2 0
        have f1 := HBX1.out.2.2 1
        clear hF hg
        go_wp2_with fail
        refine HF.out.mono ?_
        rintro e w2 ⟨rfl, rfl⟩
        have HFIN := Lib.hid (HBX1.out.set a).1
        clear HBX HBX1
        go_wp2
        refine bodyPost_ret (results_addr rfl _ _ _ _ _ rfl HFIN.out.1 HFIN.out.2.1) rfl ?_
        exact HBR.out t1 w1 (Stp.refl S.out.at_ S.out.inv) rfl rfl (Num.refl _)
      | some j =>
        unfold findV findI at hF
        rw [hg] at hF
        simp only [Option.isSome_some] at hF
        have HF := Lib.hid hF
        obtain ⟨hj, hu, hkey⟩ := pi_key S.out.inv hg
        have HT := Lib.hid (Clean_yes S.out.at_.pool j hj hu)
        clear hF hg hu hkey
        go_wp2_with fail
        refine HF.out.mono ?_
        rintro e w2 ⟨rfl, rfl⟩
        go_wp2_with fail
        refine HT.out.mono ?_
        rintro e w2 ⟨rfl, ⟨c5, hp5⟩, ho5⟩
        have S2 := stp_touch (f := { t1.F j with dirty := false }) S.out.inv S.out.at_ rfl rfl rfl hp5 ho5
        have hbx2 := HBX1.out.off S2.off HNO1.out
        have b0 := hbx2.1
        have b1 := hbx2.2.1
        have f0 := hbx2.2.2 0
        have f1 := hbx2.2.2 1
        have p1 := (S2.at_.pg id _ HX1.out).c1
        have p2 := (S2.at_.pg id _ HX1.out).c2
        have HFIN := Lib.hid (hbx2.set a).1
        have HS2 := Lib.hid S2
        clear S2 hbx2 hp5 ho5 HT HF q0 HBX HBX1
        go_wp2
        refine bodyPost_ret (results_addr rfl _ _ _ _ _ rfl HFIN.out.1 HFIN.out.2.1) rfl ?_
        exact HBR.out _ w2 HS2.out rfl rfl ⟨rfl, rfl, rfl⟩
    · have he0 := P.ez0
      have S := Lib.hid (HB.out.trans S1)
      have E := Lib.hid E1
      have N := Lib.hid N1
      have HR := Lib.hid e4
      have hnO1 : ¬ Own d t1 w.heap.size := fun e => by
        rcases S1.own _ e with e | e
        · exact HNO.out e
        · simp at e; omega
      have HNO1 := Lib.hid hnO1
      have hbx2 := HBX.out.off S1.off HNO.out
      have HGL := Lib.hid (show w.heap.size < w1.heap.size from hbx2.lt)
      have b0' := hbx2.1
      have b1' := hbx2.2.1
      have f0 := hbx2.2.2 0
      have f1 := hbx2.2.2 1
      have HFIN := Lib.hid (hbx2.set (0, 0)).1
      clear S1 E1 N1 e4 e5 hlk q4 lQ HSV b0 b1 hnO1 eF eg eh hbx2 HBX
      go_wp2
      refine bodyPost_ret (results_addr rfl _ _ _ _ _ rfl HFIN.out.1 HFIN.out.2.1) rfl ?_
      exact ⟨t1, (0, 0), P.ez, rfl, sa_done S.out (Stp.refl S.out.at_ S.out.inv) HNO1.out (Nat.le_refl _) HGL.out, E.out, N.out, .inr (.inl ⟨rfl, HR.out, by rw [HX.out]; simp⟩)⟩
end
end Go.Proofs.YtlhfjaagkgengaaGreat
