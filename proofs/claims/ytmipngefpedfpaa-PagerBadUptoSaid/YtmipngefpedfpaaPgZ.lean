/- A pager: bring, plainly. -/
import Derived.Test.YtmipngefpedfpaaPfZ
namespace Go.Proofs.Ytmipngefpedfpaa
open Go.RowKit Go.Maps
set_option linter.unusedVariables false
set_option linter.unusedSimpArgs false

def BrPost {σ : Type} {K : SnkF σ} {M : Snk K} (P : PSnk K) (w : World) (d : PD) (t : PSt σ) (id : Int) (x : Pg) (e : Ending) (w' : World) : Prop :=
  ∃ t' er, e = .returned (.int .i64 er) ∧ Stp M P w w' d t t' ∧ Ev P d.z 1 none9 t t' ∧ Num t t' ∧
    ((er = 0 ∧ (∃ B c L, t'.pm id = some { x with bb := some (B, c, L) } ∧ cont (P.rd t.s) d.z x = some L ∧ L.length = d.z) ∧ ∃ j, t'.g id = some j) ∨ (er = P.ez ∧ P.room t.s = 0 ∧ t'.g id = none) ∨ (er = 20 ∧ cont (P.rd t.s) d.z x = none ∧ t'.g id = none))
section
variable {σ : Type} {K : SnkF σ} {M : Snk K} {P : PSnk K} {w w' w1 w2 w3 w4 w5 : World} {d : PD} {t t' t1 t2 : PSt σ} {id : Int} {x : Pg} {j : Nat}
theorem mk_by (x : Pg) {B c : Nat} {L : Bytes} (h : x.bb = some (B, c, L)) : ({ x with bb := some (B, c, L) } : Pg) = x := by
  cases x
  simp at h
  simp [h]
/-- A frame is touched. -/
theorem pi_touch (hi : PI P d t) {f : Fr} {c' : Nat} (hk : f.key = (t.F j).key) (hu : f.used = (t.F j).used) (hp : f.pins = (t.F j).pins) : PI P d { t with F := putF t.F j f, c := c' } := by
  have he : ∀ i, (putF t.F j f i).key = (t.F i).key ∧ (putF t.F j f i).used = (t.F i).used ∧ (putF t.F j f i).pins = (t.F i).pins := fun i => by
    unfold putF
    split
    · rename_i h; subst h; exact ⟨hk, hu, hp⟩
    · exact ⟨rfl, rfl, rfl⟩
  refine ⟨hi.inn, ⟨hi.kv.good.same (fun i _ => ⟨(he i).1, (he i).2.1⟩), fun i hin => ?_⟩, fun i hin => ?_, hi.res, hi.has, hi.put, hi.zer, hi.dty, hi.ids, hi.hol, hi.nx1⟩
  · show 0 ≤ (putF t.F j f i).pins ∧ (putF t.F j f i).pins ≤ 1048576
    rw [(he i).2.2]
    exact hi.kv.pins i hin
  · show (putF t.F j f i).pins = 0
    rw [(he i).2.2]
    exact hi.pz i hin
theorem stp_touch (hi : PI P d t) (h : PgrAt M w d t) {f : Fr} {c' : Nat} (hk : f.key = (t.F j).key) (hu : f.used = (t.F j).used) (hpi : f.pins = (t.F j).pins) (hp : PoolAt w' d.Pb d.B d.Mp d.n (putF t.F j f) t.h t.g c') (ho : Off (PB d.Pb d.B d.Mp) w w') :
    Stp M P w w' d t { t with F := putF t.F j f, c := c' } := by
  refine ⟨h.setPool ho hp, pi_touch hi hk hu hpi, ho.mono fun k hk => ?_, fun k hk => .inl hk⟩
  rcases hk with rfl | rfl | rfl
  · exact .inl (.inr (.inl rfl))
  · exact .inl (.inr (.inr (.inl rfl)))
  · exact .inl (.inr (.inr (.inr (.inl rfl))))
theorem ev_touch {z : Nat} {E : Int → Prop} {F' : Nat → Fr} {c' : Nat} : Ev P z 0 E t { t with F := F', c := c' } := ⟨fun _ _ => id, fun i x _ h => ⟨x, h, rfl, rfl, rfl, fun h => ⟨h, rfl⟩, fun _ h => h⟩, SubR.refl _, Nat.le_refl _, fun _ => rfl, id, fun n h => h⟩
/-- It has a frame already. -/
theorem br_res (hK : K.Good) (hi : PI P d t) (h : PgrAt M w d t) (hx : t.pm id = some x) (hg : t.g id = some j) {f : Fr} {c' : Nat} (hk : f.key = (t.F j).key) (hu : f.used = (t.F j).used) (hpi : f.pins = (t.F j).pins) (hp : PoolAt w' d.Pb d.B d.Mp d.n (putF t.F j f) t.h t.g c') (ho : Off (PB d.Pb d.B d.Mp) w w') :
    BrPost (M := M) P w d t id x (.returned (.int .i64 0)) w' := by
  obtain ⟨y, e1, e2⟩ := hi.res id j hg
  rw [hx] at e1
  cases e1
  obtain ⟨⟨B, c, L⟩, hb⟩ := Option.ne_none_iff_exists'.1 e2
  refine ⟨{ t with F := putF t.F j f, c := c' }, 0, rfl, stp_touch hi h hk hu hpi hp ho, ev_touch.more hK (by omega), ⟨rfl, rfl, rfl⟩, .inl ⟨rfl, ⟨B, c, L, by rw [mk_by x hb]; exact hx, ?_, ((h.pg id x hx).bs B c L hb).len⟩, j, hg⟩⟩
  unfold cont
  rw [hb]
/-- It is taken into memory. -/
theorem br_take {w0 : World} {t0 : PSt σ} {B : Nat} (hK : K.Good) (S : Stp M P w0 w1 d t0 t1) (hBB : w0.heap.size ≤ B) (hx : t1.pm id = some x) (hg : t1.g id = none) (hbb : x.bb = none) {c : Nat} {L : Bytes} (hc : cont (P.rd t1.s) d.z x = some L) (hby : ByAt w1 d.z B c L) (hB : ¬ Own d t1 B) (hj : j < d.n) (hno : ∀ k, t1.g k ≠ some j)
    (hkv : KInv d.n (putF t1.F j (Fr.new id)) (upd t1.g id (some j))) {c' : Nat} (hp : PoolAt w2 d.Pb d.B d.Mp d.n (putF t1.F j (Fr.new id)) t1.h (upd t1.g id (some j)) c') (ho : Off (PB d.Pb d.B d.Mp) w1 w2) (hb3 : Below w2.heap.size w2 w3) :
    ∃ t2, Stp M P w0 (w3.setCell ⟨x.X, 0, none⟩ (.slice (some ⟨B, 0, none⟩) d.z c)) d t0 t2 ∧ Ev P d.z 0 none9 t1 t2 ∧ Num t1 t2 ∧ t2.pm id = some { x with bb := some (B, c, L) } ∧ t2.g id = some j ∧ (t2.F j).used = true := by
  have hi := S.inv
  have h1 := S.at_
  have h2 := h1.setPool ho hp
  have h3 := h2.up hb3
  have hPB : ∀ k, PB d.Pb d.B d.Mp k → Own d t1 k := fun k hk => by
    rcases hk with rfl | rfl | rfl
    · exact .inl (.inr (.inl rfl))
    · exact .inl (.inr (.inr (.inl rfl)))
    · exact .inl (.inr (.inr (.inr (.inl rfl))))
  have hz := h1.zs.1
  have hby3 : ByAt w3 d.z B c L := (hby.off hz ho (fun e => hB (hPB _ e))).off (S := fun _ => False) hz (Off.of_below hb3) (fun e => e)
  have hpg := h3.pg id x hx
  have hXB : B ≠ x.X := fun e => hB (.inl (.inr (.inr (.inr (.inr (.inr ⟨id, x, hx, .inl e⟩))))))
  have ho3 : Off x.blk w3 (w3.setCell ⟨x.X, 0, none⟩ (.slice (some ⟨B, 0, none⟩) d.z c)) := (Off.refl x.blk w3).setCell (p := ⟨x.X, 0, none⟩) (.inl rfl) _
  have hp4 : PgAt (w3.setCell ⟨x.X, 0, none⟩ (.slice (some ⟨B, 0, none⟩) d.z c)) d.z { x with bb := some (B, c, L) } := hpg.set (k := 0) (x' := { x with bb := some (B, c, L) }) rfl (by unfold Pg.bv; simp [hby.len]) rfl rfl rfl rfl rfl (fun B' c' L' e => by
    cases e
    exact hby3.off hz ((Off.refl (· = x.X) w3).setCell (p := ⟨x.X, 0, none⟩) rfl _) hXB)
  have h4 := h3.setPage (id := id) (x := x) (x' := { x with bb := some (B, c, L) }) hx rfl (fun k hk => by
    rcases hk with e | ⟨c1, L1, e⟩
    · exact .inl (.inl e)
    · cases e
      exact .inr ⟨fun e => hB (.inl e), fun e => hB (.inr e)⟩) ho3 hp4
  have hpm : ∀ i y, updP t1.pm id (some { x with bb := some (B, c, L) }) i = some y → (i = id ∧ y = { x with bb := some (B, c, L) }) ∨ (i ≠ id ∧ t1.pm i = some y) := fun i y e => by
    unfold updP at e
    split at e
    · rename_i h; exact .inl ⟨h, (Option.some.inj e).symm⟩
    · rename_i h; exact .inr ⟨h, e⟩
  have hzL : x.zero = true → L = zeros d.z := fun hzz => by
    unfold cont at hc
    rw [hbb] at hc
    simp [hzz] at hc
    exact hc.symm
  refine ⟨{ t1 with pm := updP t1.pm id (some { x with bb := some (B, c, L) }), F := putF t1.F j (Fr.new id), g := upd t1.g id (some j), c := c' }, ⟨h4, ?_, ?_, ?_⟩, ?_, ⟨rfl, rfl, rfl⟩, updP_same _ _ _, by show upd t1.g id (some j) id = _; unfold upd; rw [if_pos rfl], by show (putF t1.F j (Fr.new id) j).used = true; unfold putF; rw [if_pos rfl]; rfl⟩
  · refine ⟨hi.inn, hkv, fun i hin => ?_, fun i k hik => ?_, fun i y hy hbb => ?_, fun i y hy hpp => ?_, fun i y B c L hy hzz hbb => ?_, fun i y hy h1 h2 => ?_, fun i y hy => ?_, hi.hol, hi.nx1⟩
    · show (putF t1.F j (Fr.new id) i).pins = 0
      unfold putF
      split
      · rfl
      · exact hi.pz i hin
    · have hik' : upd t1.g id (some j) i = some k := hik
      unfold upd at hik'
      split at hik'
      · rename_i he
        exact ⟨_, by rw [he]; exact updP_same _ _ _, by simp⟩
      · rename_i hne
        obtain ⟨y, f1, f2⟩ := hi.res i k hik'
        exact ⟨y, (updP_ne _ _ hne).trans f1, f2⟩
    · show upd t1.g id (some j) i ≠ none
      unfold upd
      rcases hpm i y hy with ⟨rfl, rfl⟩ | ⟨e, f⟩
      · rw [if_pos rfl]; simp
      · rw [if_neg e]
        exact hi.has i y f hbb
    · rcases hpm i y hy with ⟨rfl, rfl⟩ | ⟨e, f⟩
      · refine ⟨fun B' c' L' e => ?_, fun hzz => (hi.put i x hx hpp).2 hzz⟩
        cases e
        cases hzz : x.zero with
        | true =>
          rw [hzL hzz]
          exact (hi.put i x hx hpp).2 hzz
        | false =>
          unfold cont at hc
          rw [hbb, hzz] at hc
          show P.rd t1.s x.at_ = some L
          cases hr : P.rd t1.s x.at_ with
          | none => rw [hr] at hc; simp at hc
          | some b =>
            rw [hr] at hc
            simp at hc
            rw [hc.2]
      · exact hi.put i y f hpp
    · rcases hpm i y hy with ⟨rfl, rfl⟩ | ⟨e, f⟩
      · cases hbb
        exact hzL hzz
      · exact hi.zer i y B c L f hzz hbb
    · rcases hpm i y hy with ⟨rfl, rfl⟩ | ⟨e, f⟩
      · simp
      · exact hi.dty i y f h1 h2
    · rcases hpm i y hy with ⟨rfl, rfl⟩ | ⟨e, f⟩
      · exact hi.ids i x hx
      · exact hi.ids i y f
  · refine S.off.late (((ho.mono hPB).step hb3).late ho3 (fun i _ hk => .inl (.inr (.inr (.inr (.inr (.inr ⟨id, x, hx, hk⟩))))))) (fun i hl hk => ?_)
    rcases S.own i hk with e | e
    · exact e
    · omega
  · intro k hk
    rcases hk with hk | hk
    · rcases own_upd hx hk with e | e
      · exact S.own k (.inl e)
      · rcases e with e | ⟨c1, L1, e⟩
        · exact S.own k (.inl (.inr (.inr (.inr (.inr (.inr ⟨id, x, hx, .inl e⟩))))))
        · cases e
          exact .inr hBB
    · exact S.own k (.inr hk)
  · refine ⟨fun i _ hn => ?_, fun i y _ hy => ?_, SubR.refl _, Nat.le_refl _, fun _ => rfl, fun h => h, fun n h => h⟩
    · exact (updP_ne _ _ (fun e => by rw [e, hx] at hn; cases hn)).trans hn
    · by_cases hid : i = id
      · subst hid
        rw [hx] at hy
        cases hy
        refine ⟨{ x with bb := some (B, c, L) }, updP_same _ _ _, rfl, rfl, rfl, fun h => ⟨h, rfl⟩, fun L' hL => ?_⟩
        have hc' : cont (P.rd t1.s) d.z x = some L' := hL
        rw [hc] at hc'
        cases hc'
        unfold cont
        rfl
      · exact ⟨y, (updP_ne _ _ hid).trans hy, rfl, rfl, rfl, fun h => ⟨h, rfl⟩, fun L hL => hL⟩
end
end Go.Proofs.Ytmipngefpedfpaa
