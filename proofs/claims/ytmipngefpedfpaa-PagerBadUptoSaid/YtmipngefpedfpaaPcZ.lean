/- A pager: what holds of it all the while; what may become of it. -/
import Derived.Test.YtmipngefpedfpaaPbZ
namespace Go.Proofs.Ytmipngefpedfpaa
open Go.RowKit Go.Maps
set_option linter.unusedVariables false
set_option linter.unusedSimpArgs false

structure PI {σ : Type} {K : SnkF σ} (P : PSnk K) (d : PD) (t : PSt σ) : Prop where
  inn : P.In t.s
  kv : KInv d.n t.F t.g
  pz : ∀ j, j < d.n → (t.F j).pins = 0
  res : ∀ i j, t.g i = some j → ∃ x, t.pm i = some x ∧ x.bb ≠ none
  has : ∀ i x, t.pm i = some x → x.bb ≠ none → t.g i ≠ none
  put : ∀ i x, t.pm i = some x → x.put = true → (∀ B c L, x.bb = some (B, c, L) → P.rd t.s x.at_ = some L) ∧ (x.zero = true → P.rd t.s x.at_ = some (zeros d.z))
  zer : ∀ i x B c L, t.pm i = some x → x.zero = true → x.bb = some (B, c, L) → L = zeros d.z
  dty : ∀ i x, t.pm i = some x → x.put = false → x.zero = false → x.bb ≠ none
  ids : ∀ i x, t.pm i = some x → 1 ≤ i ∧ i ≤ t.nx ∧ (i = t.nx → t.hole = some i)
  hol : ∀ i, t.hole = some i → i = t.nx
  nx1 : 1 ≤ t.nx
/-- What may become of the pages that E does not name, k Puts at most. -/
structure Ev {σ : Type} {K : SnkF σ} (P : PSnk K) (z k : Nat) (E : Int → Prop) (t t' : PSt σ) : Prop where
  no : ∀ i, ¬ E i → t.pm i = none → t'.pm i = none
  pg : ∀ i x, ¬ E i → t.pm i = some x → ∃ x', t'.pm i = some x' ∧ x'.X = x.X ∧ x'.zero = x.zero ∧ x'.uses = x.uses ∧ (x.put = true → x'.put = true ∧ x'.at_ = x.at_) ∧ (∀ L, cont (P.rd t.s) z x = some L → cont (P.rd t'.s) z x' = some L)
  sub : SubR (P.rd t.s) (P.rd t'.s)
  cnt : P.cnt t'.s ≤ P.cnt t.s + k
  keep : (∀ i x, t.pm i = some x → x.put = true) → P.cnt t'.s = P.cnt t.s
  room : P.room t.s < 0 → P.room t'.s < 0
  rdy : ∀ n, K.Rdy t.s (n + k) → K.Rdy t'.s n
/-- The numbers are as they were. -/
structure Num {σ : Type} (t t' : PSt σ) : Prop where
  nx : t'.nx = t.nx
  hole : t'.hole = t.hole
  cm : t'.cm = t.cm
def Own {σ : Type} (d : PD) (t : PSt σ) (k : Nat) : Prop := ownP d t.pm k ∨ t.O k
structure Stp {σ : Type} {K : SnkF σ} (M : Snk K) (P : PSnk K) (w w' : World) (d : PD) (t t' : PSt σ) : Prop where
  at_ : PgrAt M w' d t'
  inv : PI P d t'
  off : Off (Own d t) w w'
  own : ∀ k, Own d t' k → Own d t k ∨ w.heap.size ≤ k
theorem cont_sub {rd rd' : Rdr} {z : Nat} {x : Pg} {L : Bytes} (hs : SubR rd rd') (h : cont rd z x = some L) : cont rd' z x = some L := by
  unfold cont at h ⊢
  split at h
  · exact h
  · split at h
    · rename_i hz
      rw [if_pos hz]
      exact h
    · rename_i hz
      rw [if_neg hz]
      cases hr : rd x.at_ with
      | none => rw [hr] at h; simp at h
      | some b => rw [hs _ _ hr]; rw [hr] at h; exact h
def none9 : Int → Prop := fun _ => False
section
variable {σ : Type} {K : SnkF σ} {M : Snk K} {P : PSnk K} {w w' w1 w2 : World} {d : PD} {t t' t1 t2 : PSt σ} {z k k1 k2 : Nat} {E : Int → Prop}
theorem Num.refl (t : PSt σ) : Num t t := ⟨rfl, rfl, rfl⟩
theorem Num.trans (h : Num t t1) (g : Num t1 t2) : Num t t2 := ⟨g.nx.trans h.nx, g.hole.trans h.hole, g.cm.trans h.cm⟩
theorem Ev.refl (hK : K.Good) (t : PSt σ) : Ev P z k E t t :=
  ⟨fun _ _ => id, fun i x _ h => ⟨x, h, rfl, rfl, rfl, fun h => ⟨h, rfl⟩, fun _ h => h⟩, SubR.refl _, Nat.le_add_right _ _, fun _ => rfl, id, fun n h => hK.mono _ _ _ h (Nat.le_add_right _ _)⟩
theorem Ev.trans (h : Ev P z k1 none9 t t1) (g : Ev P z k2 E t1 t2) : Ev P z (k1 + k2) E t t2 := by
  refine ⟨fun i he hi => g.no i he (h.no i id hi), fun i x he hx => ?_, h.sub.trans g.sub, by have := h.cnt; have := g.cnt; omega, fun hp => ?_, fun hr => g.room (h.room hr), fun n hn => g.rdy n (h.rdy _ (by rw [show n + k2 + k1 = n + (k1 + k2) by omega]; exact hn))⟩
  · obtain ⟨x1, e1, e2, e3, e4, e5, e6⟩ := h.pg i x id hx
    obtain ⟨x2, f1, f2, f3, f4, f5, f6⟩ := g.pg i x1 he e1
    exact ⟨x2, f1, f2.trans e2, f3.trans e3, f4.trans e4, fun hp => ⟨(f5 (e5 hp).1).1, (f5 (e5 hp).1).2.trans (e5 hp).2⟩, fun L hL => f6 L (e6 L hL)⟩
  · rw [g.keep, h.keep hp]
    intro i x1 hx1
    cases hx : t.pm i with
    | none => rw [h.no i id hx] at hx1; cases hx1
    | some x =>
      obtain ⟨x1', e1, e2, e3, e4, e5, e6⟩ := h.pg i x id hx
      rw [e1] at hx1
      cases hx1
      exact (e5 (hp i x hx)).1
theorem Ev.more (hK : K.Good) (h : Ev P z k1 E t t1) (hk : k1 ≤ k2) : Ev P z k2 E t t1 := ⟨h.no, h.pg, h.sub, by have := h.cnt; omega, h.keep, h.room, fun n hn => h.rdy n (hK.mono _ _ _ hn (by omega))⟩
theorem Ev.wide {E' : Int → Prop} (h : Ev P z k E t t1) (hE : ∀ i, E i → E' i) : Ev P z k E' t t1 := ⟨fun i he => h.no i (fun e => he (hE i e)), fun i x he => h.pg i x (fun e => he (hE i e)), h.sub, h.cnt, h.keep, h.room, h.rdy⟩
theorem Stp.refl (h : PgrAt M w d t) (hi : PI P d t) : Stp M P w w d t t := ⟨h, hi, Off.refl _ _, fun _ => .inl⟩
theorem Stp.trans (h : Stp M P w w1 d t t1) (g : Stp M P w1 w2 d t1 t2) : Stp M P w w2 d t t2 := by
  refine ⟨g.at_, g.inv, h.off.late g.off (fun i hi ho => ?_), fun i ho => ?_⟩
  · rcases h.own i ho with e | e
    · exact e
    · omega
  · rcases g.own i ho with e | e
    · exact h.own i e
    · have := h.off.size; exact .inr (by omega)
theorem Stp.up (h : Stp M P w w1 d t t1) (hb : Below w1.heap.size w1 w2) : Stp M P w w2 d t t1 := ⟨h.at_.up hb, h.inv, h.off.step hb, h.own⟩
theorem PgrAt.ltO (h : PgrAt M w d t) {k : Nat} (hk : Own d t k) : k < w.heap.size := by
  rcases hk with e | e
  · exact h.own_lt e
  · exact M.lt h.at_ e
theorem Stp.below (h : PgrAt M w d t) (hi : PI P d t) (hb : Below w.heap.size w w') : Stp M P w w' d t t := (Stp.refl h hi).up hb
/-- The sink alone has answered. -/
theorem stp_sink {s' : σ} (hi : PI P d t) (h : PgrAt M w' d { t with s := s' }) (ho : Off t.O w w') (hs : SkSame P t.s s') : Stp M P w w' d t { t with s := s' } ∧ Ev P z 0 E t { t with s := s' } := by
  refine ⟨⟨h, ⟨hs.inn, hi.kv, hi.pz, hi.res, hi.has, fun i x hx hp => ?_, hi.zer, hi.dty, hi.ids, hi.hol, hi.nx1⟩, ho.mono fun k e => .inr e, fun k e => .inl e⟩, fun _ _ => id, fun i x _ hx => ⟨x, hx, rfl, rfl, rfl, fun h => ⟨h, rfl⟩, fun L hL => ?_⟩, ?_, by show P.cnt s' ≤ _; rw [hs.cnt]; omega, fun _ => hs.cnt, fun hr => ?_, fun n hn => hs.rdy n hn⟩
  · have e : P.rd ({ t with s := s' } : PSt σ).s = P.rd t.s := hs.rd
    rw [e]
    exact hi.put i x hx hp
  · have e : P.rd ({ t with s := s' } : PSt σ).s = P.rd t.s := hs.rd
    rw [e]; exact hL
  · have e : P.rd ({ t with s := s' } : PSt σ).s = P.rd t.s := hs.rd
    rw [e]; exact SubR.refl _
  · show P.room s' < 0
    rw [hs.room]; exact hr
theorem num_sink (s' : σ) : Num t { t with s := s' } := ⟨rfl, rfl, rfl⟩
/-- There is room in the pool: a frame that nobody uses. -/
theorem take_room {n h : Nat} {F : Nat → Fr} {g : Int → Option Nat} {key : Int} (I : KInv n F g) (hh : h < n) (hg : g key = none) (hc : cntF qUsed F n < n) :
    ∃ j, j < n ∧ (∀ k, g k ≠ some j) ∧ TakeIs n (takeR n F h g key) j Fr.zero false 0 (putF F j (Fr.new key)) h (upd g key (some j)) ∧ KInv n (putF F j (Fr.new key)) (upd g key (some j)) ∧ cntF qUsed (putF F j (Fr.new key)) n = cntF qUsed F n + 1 := by
  have hun : ∀ m, m ≤ n → cntF qUsed F m < m → ∃ j, j < n ∧ (F j).used = false := by
    intro m
    induction m with
    | zero => intro _ h; omega
    | succ m ih =>
      intro hm h
      cases hu : (F m).used with
      | false => exact ⟨m, by omega, hu⟩
      | true =>
        rw [cntF_yes (q := qUsed) hu] at h
        exact ih (by omega) (by omega)
  obtain ⟨j0, hj0, hu0⟩ := hun n (Nat.le_refl _) hc
  obtain ⟨j1, e1, e2, e3, e4⟩ : ∃ j : Nat, freeAt F n = j ∧ j < n ∧ (F j).used = false ∧ ∀ i, i < j → (F i).used = true := by
    rcases first_spec (fun i => !(F i).used) n with ⟨h1, h2⟩ | ⟨j, h1, h2, h3, h4⟩
    · have := h2 j0 hj0
      simp [hu0] at this
    · exact ⟨j, h1, h2, by simpa using h3, fun i hi => by simpa using h4 i hi⟩
  cases kt I hh (key := key) with
  | used h1 => rw [hg] at h1; cases h1
  | free j h1 h2 h3 h4 h5 h6 => exact ⟨j, h2, h3, h4, h5, h6⟩
  | full h1 ht =>
    have := ht.e
    unfold takeR at this
    rw [hg, e1, if_neg (by simp), if_pos (by omega)] at this
    simp at this
  | give r out F' h' h1 h2 h3 h4 h5 h6 h7 h8 ht =>
    have := ht.given
    unfold takeR at this
    rw [hg, e1, if_neg (by simp), if_pos (by omega)] at this
    simp at this
end
end Go.Proofs.Ytmipngefpedfpaa
