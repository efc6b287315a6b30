/- Spaces on one pager: how many have a page. Spaces on one pager: what one does the others see not. -/
import Derived.Test.YtlhfjaagkgengaaGreatWaZ
import Derived.Test.YtlhfjaagkgengaaGreatVkZ
namespace Go.Proofs.YtlhfjaagkgengaaGreat
open Go.RowKit Go.Maps
set_option linter.unusedVariables false
set_option linter.unusedSimpArgs false
abbrev Pm := Int → Option Int
open Classical in
/-- How many of them have a page. -/
noncomputable def cntI (ms : List Pm) (id : Int) : Nat := ms.countP fun m => decide (hasI m id)
theorem cntI_yes {m : Pm} {id : Int} (h : hasI m id) (ms : List Pm) : cntI (m :: ms) id = cntI ms id + 1 := by
  unfold cntI
  exact List.countP_cons_of_pos (p := fun m => @decide (hasI m id) (Classical.propDecidable _)) (@decide_eq_true _ (_) h)
theorem cntI_no {m : Pm} {id : Int} (h : ¬ hasI m id) (ms : List Pm) : cntI (m :: ms) id = cntI ms id := by
  unfold cntI
  exact List.countP_cons_of_neg (p := fun m => @decide (hasI m id) (Classical.propDecidable _)) (by simp [h])
theorem cntI_perm {l l' : List Pm} (h : l.Perm l') (id : Int) : cntI l id = cntI l' id := h.countP_eq _
theorem cntI_pos {ms : List Pm} {m : Pm} (h : m ∈ ms) {id : Int} (hi : hasI m id) : 0 < cntI ms id := by
  unfold cntI
  rw [List.countP_pos_iff]
  exact ⟨m, h, @decide_eq_true _ (_) hi⟩
theorem cntI_le (ms : List Pm) (id : Int) : cntI ms id ≤ ms.length := List.countP_le_length
theorem cntI_two {ms : List Pm} {m m2 : Pm} (h2 : m2 ∈ ms) {id : Int} (hi : hasI m id) (hi2 : hasI m2 id) : 2 ≤ cntI (m :: ms) id := by
  classical
  have := cntI_pos h2 hi2
  rw [cntI_yes hi]
  omega
/-- The pager has just the pages that they have, each with so many uses. -/
def UsOk (C : Cu) (ms : List Pm) : Prop := ∀ id, (C id).map (·.2) = if cntI ms id = 0 then none else some ((cntI ms id : Nat) : Int)
theorem UsOk.perm {C : Cu} {l l' : List Pm} (h : UsOk C l) (hp : l.Perm l') : UsOk C l' := fun id => by rw [← cntI_perm hp id]; exact h id
theorem UsOk.got {C : Cu} {l : List Pm} (h : UsOk C l) {id : Int} {b : Bytes} {u : Int} (hc : C id = some (b, u)) : u = (cntI l id : Nat) ∧ 0 < cntI l id := by
  have := h id
  rw [hc, Option.map_some] at this
  split at this
  · cases this
  · injection this with e
    exact ⟨e, by omega⟩
theorem UsOk.has {C : Cu} {l : List Pm} (h : UsOk C l) {id : Int} (hp : 0 < cntI l id) : ∃ p, C id = some p ∧ p.2 = (cntI l id : Nat) := by
  have := h id
  rw [if_neg (by omega)] at this
  cases hc : C id with
  | none => rw [hc] at this; cases this
  | some p =>
    rw [hc, Option.map_some] at this
    injection this with e
    exact ⟨p, rfl, e⟩
theorem UsOk.away {C : Cu} {l : List Pm} (h : UsOk C l) {id : Int} (hp : cntI l id = 0) : C id = none := by
  have := h id
  rw [if_pos hp] at this
  cases hc : C id with
  | none => rfl
  | some p => rw [hc] at this; cases this
theorem UsOk.at {C : Cu} {l : List Pm} (h : UsOk C l) {m : Pm} (hm : m ∈ l) {i id : Int} (hi : m i = Option.some id) : ∃ p, C id = Option.some p := by
  obtain ⟨p, hp, _⟩ := h.has (cntI_pos hm ⟨i, hi⟩)
  exact ⟨p, hp⟩
/-- One use less. -/
theorem us_less {C : Cu} {m m' : Pm} {ms : List Pm} (h : UsOk C (m :: ms)) {id : Int} (hm : hasI m id) (hm' : ¬ hasI m' id) : (decU (C id)).map (·.2) = if cntI (m' :: ms) id = 0 then none else some ((cntI (m' :: ms) id : Nat) : Int) := by
  classical
  obtain ⟨⟨b, u⟩, hc, hu⟩ := h.has (cntI_pos List.mem_cons_self hm)
  simp only at hu
  rw [cntI_yes hm] at hu
  rw [cntI_no hm', hc, decU]
  by_cases c : cntI ms id = 0
  · rw [if_pos c, if_neg (by omega)]
    rfl
  · rw [if_neg c, if_pos (by omega), Option.map_some]
    congr 1
    simp only
    omega
theorem us_same {C C' : Cu} {m m' : Pm} {ms : List Pm} (h : UsOk C (m :: ms)) {id : Int} (hm : hasI m' id ↔ hasI m id) (hc : C' id = C id) : (C' id).map (·.2) = if cntI (m' :: ms) id = 0 then none else some ((cntI (m' :: ms) id : Nat) : Int) := by
  classical
  rw [hc, h id]
  by_cases c : hasI m id
  · rw [cntI_yes c, cntI_yes (hm.2 c)]
  · rw [cntI_no c, cntI_no (fun e => c (hm.1 e))]
theorem UsOk.lo {C : Cu} {m : Pm} {ms : List Pm} (h : UsOk C (m :: ms)) (hinj : ∀ i j id, m i = some id → m j = some id → i = j) (dn : Int → Prop) : UsOk (loC C m dn) (loM m dn :: ms) := by
  intro id
  by_cases c : ∃ k, dn k ∧ m k = Option.some id
  · obtain ⟨k, hk, hm⟩ := c
    have e : loC C m dn id = decU (C id) := by unfold loC; rw [if_pos ⟨k, hk, hm⟩]
    rw [e]
    refine us_less h ⟨k, hm⟩ ?_
    rintro ⟨i, hi⟩
    unfold loM at hi
    split at hi
    · cases hi
    · rename_i hn
      rw [hinj i k id hi hm] at hn
      exact hn hk
  · have e : loC C m dn id = C id := by unfold loC; rw [if_neg c]
    refine us_same h ⟨?_, ?_⟩ e
    · rintro ⟨i, hi⟩
      unfold loM at hi
      split at hi
      · cases hi
      · exact ⟨i, hi⟩
    · rintro ⟨i, hi⟩
      refine ⟨i, ?_⟩
      unfold loM
      rw [if_neg (fun hd => c ⟨i, hd, hi⟩)]
      exact hi
theorem UsOk.drop {C : Cu} {m : Pm} {ms : List Pm} (h : UsOk C (m :: ms)) (hm : ∀ i, m i = Option.none) : UsOk C ms := fun id => by
  classical
  rw [h id, cntI_no (by rintro ⟨i, hi⟩; rw [hm] at hi; cases hi)]
theorem UsOk.kp {C : Cu} {m : Pm} {ms : List Pm} (h : UsOk C ms) (hm : m ∈ ms) : UsOk (kpC C m) (m :: ms) := fun id => by
  classical
  unfold kpC
  by_cases c : hasI m id
  · obtain ⟨p, hp, hu⟩ := h.has (cntI_pos hm c)
    have := cntI_pos hm c
    rw [if_pos c, cntI_yes c, if_neg (by omega), hp, Option.map_some, Option.map_some]
    congr 1
    simp only
    rw [hu]
    rfl
  · rw [if_neg c, cntI_no c]
    exact h id
theorem UsOk.nil : UsOk (fun _ => Option.none) [] := fun id => rfl
theorem UsOk.new {C : Cu} {ms : List Pm} (h : UsOk C ms) : UsOk C ((fun _ => Option.none) :: ms) := fun id => by
  classical
  rw [cntI_no (by rintro ⟨i, hi⟩; cases hi)]
  exact h id
section
variable {C : Cu} {m : Pm} {ms : List Pm} {R : List Mk3} {N : Nat}
/-- The store's pages are placed. -/
def dnS (R : List Mk3) (i : Int) : Prop := (mkM R i).isSome = true
theorem pl_new (h : MkOk C m R N) {e : Mk3} (he : e ∈ R) : plC C m R (dnS R) (e.id : Int) = some (e.b, 1) ∧ plM m R (dnS R) (e.p : Int) = some (e.id : Int) := by
  have hd : dnS R (e.p : Int) := by unfold dnS; rw [mkM_mem R h.pl e he]; rfl
  unfold plC plM
  rw [if_pos ⟨e, he, rfl, hd⟩, if_pos hd, mkM_mem R h.pl e he, addC_mem C R h.ids e he]
  exact ⟨rfl, rfl⟩
theorem pl_off (h : MkOk C m R N) {i : Int} (hi : ∀ e ∈ R, (e.p : Int) ≠ i) : plM m R (dnS R) i = m i := by
  have hd : ¬ dnS R i := by
    unfold dnS
    intro hs
    cases hc : mkM R i with
    | none => rw [hc] at hs; cases hs
    | some j =>
      obtain ⟨e, he, h1, _⟩ := mkM_some R i j hc
      exact hi e he h1.symm
  unfold plM
  rw [if_neg hd]
theorem UsOk.pl (hu : UsOk C (m :: ms)) (h : MkOk C m R N) : UsOk (plC C m R (dnS R)) (plM m R (dnS R) :: ms) := by
  classical
  intro id
  have hmk : ∀ i, mkM R i = Option.some id → ∃ e ∈ R, (e.id : Int) = id := fun i hi => by
    obtain ⟨e, he, _, h2⟩ := mkM_some R i id hi
    exact ⟨e, he, h2.symm⟩
  by_cases c1 : ∃ e ∈ R, (e.id : Int) = id
  · obtain ⟨e, he, rfl⟩ := c1
    obtain ⟨h1, h2⟩ := pl_new h he
    have h0 : cntI (m :: ms) (e.id : Int) = 0 := by
      by_cases c : cntI (m :: ms) (e.id : Int) = 0
      · exact c
      · obtain ⟨p, hp, _⟩ := hu.has (id := (e.id : Int)) (by omega)
        have := h.old _ p hp
        have := h.new e he
        omega
    have h00 : cntI ms (e.id : Int) = 0 := by
      by_cases c : hasI m (e.id : Int)
      · rw [cntI_yes c] at h0; omega
      · rw [cntI_no c] at h0; exact h0
    rw [h1, cntI_yes ⟨_, h2⟩, h00, if_neg (by omega)]
    rfl
  · by_cases c2 : ∃ k, dnS R k ∧ m k = Option.some id
    · have e : plC C m R (dnS R) id = decU (C id) := by
        unfold plC
        rw [if_neg (by rintro ⟨e, he, e2, _⟩; exact c1 ⟨e, he, e2⟩), if_pos c2]
      obtain ⟨k, hk, hm⟩ := c2
      rw [e]
      refine us_less hu ⟨k, hm⟩ ?_
      rintro ⟨i, hi⟩
      unfold plM at hi
      split at hi
      · exact c1 (hmk i hi)
      · rename_i hn
        rw [h.inj i k id hi hm] at hn
        exact hn hk
    · have e : plC C m R (dnS R) id = C id := by
        unfold plC
        rw [if_neg (by rintro ⟨e, he, e2, _⟩; exact c1 ⟨e, he, e2⟩), if_neg c2]
        exact addC_old C R id fun y hy e => c1 ⟨y, hy, e⟩
      refine us_same hu ⟨?_, ?_⟩ e
      · rintro ⟨i, hi⟩
        unfold plM at hi
        split at hi
        · exact absurd (hmk i hi) c1
        · exact ⟨i, hi⟩
      · rintro ⟨i, hi⟩
        refine ⟨i, ?_⟩
        unfold plM
        rw [if_neg (fun hd => c2 ⟨i, hd, hi⟩)]
        exact hi
/-- What is there still has its bytes. -/
theorem pl_bytes (h : MkOk C m R N) {id : Int} (hid : id < N) {p : Bytes × Int} (hp : plC C m R (dnS R) id = some p) : ∃ u, C id = some (p.1, u) := by
  unfold plC at hp
  rw [if_neg (by rintro ⟨e, he, e2, _⟩; have := h.new e he; omega)] at hp
  have hold := addC_old C R id fun y hy e => by have := h.new y hy; omega
  split at hp
  · cases hc : C id with
    | none => rw [hc] at hp; cases hp
    | some q =>
      obtain ⟨b, u⟩ := q
      rw [hc, decU] at hp
      split at hp
      · injection hp with e; exact ⟨u, by rw [← e]⟩
      · cases hp
  · rw [hold] at hp
    exact ⟨p.2, hp⟩
theorem lo_bytes {dn : Int → Prop} {id : Int} {p : Bytes × Int} (hp : loC C m dn id = some p) : ∃ u, C id = some (p.1, u) := by
  unfold loC at hp
  split at hp
  · cases hc : C id with
    | none => rw [hc] at hp; cases hp
    | some q =>
      obtain ⟨b, u⟩ := q
      rw [hc, decU] at hp
      split at hp
      · injection hp with e; exact ⟨u, by rw [← e]⟩
      · cases hp
  · exact ⟨p.2, hp⟩
theorem kp_bytes {id : Int} {p : Bytes × Int} (hp : kpC C m id = some p) : ∃ u, C id = some (p.1, u) := by
  unfold kpC at hp
  split at hp
  · cases hc : C id with
    | none => rw [hc] at hp; cases hp
    | some q =>
      rw [hc, Option.map_some] at hp
      injection hp with e
      exact ⟨q.2, by rw [← e]⟩
  · exact ⟨p.2, hp⟩
theorem memF_same {C C' : Cu} {m : Pm} {z : Nat} (h : ∀ i id, m i = some id → ∃ p u, C' id = some p ∧ C id = some (p.1, u)) : memF z C' m = memF z C m := by
  funext i
  unfold memF
  cases hm : m (i : Nat) with
  | none => rfl
  | some id =>
    obtain ⟨p, u, h1, h2⟩ := h _ id hm
    simp only [h1, h2]
/-- The memory behind a store. -/
theorem memF_pl {z nx : Nat} {ps : List Pt} {bs : Bytes} (hl : ∀ i, (memF z C m i).length = z) (hp : ps.Pairwise (fun x y => x.p < y.p)) (hin : ∀ x ∈ ps, x.o + x.n ≤ z) (hb : bs.length = sumN ps) (h : MkOk C m (mkF z C m nx ps bs) N)
    (hu : UsOk C (m :: ms)) : memF z (plC C m (mkF z C m nx ps bs) (dnS (mkF z C m nx ps bs))) (plM m (mkF z C m nx ps bs) (dnS (mkF z C m nx ps bs))) = stF (memF z C m) ps bs := by
  funext i
  obtain ⟨g1, g2⟩ := mkF_mem_st z C m hl ps nx bs hp hin hb i
  by_cases c : ∃ e ∈ mkF z C m nx ps bs, e.p = i
  · obtain ⟨e, he, rfl⟩ := c
    obtain ⟨h1, h2⟩ := pl_new h he
    rw [← g1 e he rfl]
    unfold memF
    simp only [h2, h1]
  · have hne : ∀ e ∈ mkF z C m nx ps bs, e.p ≠ i := fun e he e2 => c ⟨e, he, e2⟩
    rw [(g2 hne).1]
    have hpm := pl_off h (i := (i : Int)) (fun e he e2 => hne e he (by omega))
    unfold memF
    rw [hpm]
    cases hm : m (i : Nat) with
    | none => rfl
    | some id =>
      obtain ⟨p, hp⟩ := hu.at List.mem_cons_self hm
      have hid := h.old id p hp
      have hus := hu.pl h
      have : ∃ p', plC C m (mkF z C m nx ps bs) (dnS (mkF z C m nx ps bs)) id = some p' := hus.at List.mem_cons_self (by rw [hpm]; exact hm)
      obtain ⟨p', hp'⟩ := this
      obtain ⟨u, e⟩ := pl_bytes h hid hp'
      simp only [hp', e]
/-- Which places have a page behind a store. -/
theorem dom_pl {z nx : Nat} {ps : List Pt} {bs : Bytes} (hl : ∀ i, (memF z C m i).length = z) (hp : ps.Pairwise (fun x y => x.p < y.p)) (hin : ∀ x ∈ ps, x.o + x.n ≤ z) (hb : bs.length = sumN ps) (h : MkOk C m (mkF z C m nx ps bs) N) (i : Int) :
    (plM m (mkF z C m nx ps bs) (dnS (mkF z C m nx ps bs)) i).isSome = true ↔ (m i).isSome = true ∨ ∃ x ∈ ps, (x.p : Int) = i := by
  by_cases c : ∃ e ∈ mkF z C m nx ps bs, (e.p : Int) = i
  · obtain ⟨e, he, rfl⟩ := c
    rw [(pl_new h he).2]
    obtain ⟨_, x, hx, e1⟩ := mkF_mem z C m ps _ _ e he
    exact ⟨fun _ => .inr ⟨x, hx, by rw [e1]⟩, fun _ => rfl⟩
  · rw [pl_off h (fun e he e2 => c ⟨e, he, e2⟩)]
    refine ⟨.inl, ?_⟩
    rintro (h1 | ⟨x, hx, rfl⟩)
    · exact h1
    · obtain ⟨g1, g2⟩ := mkF_mem_st z C m hl ps nx bs hp hin hb x.p
      exact (g2 fun e he e2 => c ⟨e, he, by rw [e2]⟩).2 ⟨x, hx, rfl⟩
theorem inj_pl (h : MkOk C m R N) (i j id : Int) (h1 : plM m R (dnS R) i = some id) (h2 : plM m R (dnS R) j = some id) : i = j := by
  have key : ∀ e ∈ R, ∀ y ∈ R, e.id = y.id → e = y := by
    intro e he y hy hid
    obtain ⟨i, hi⟩ := List.mem_iff_getElem?.1 hy
    obtain ⟨j, hj⟩ := List.mem_iff_getElem?.1 he
    have il := (List.getElem?_eq_some_iff.1 hi)
    have jl := (List.getElem?_eq_some_iff.1 hj)
    rcases Nat.lt_trichotomy i j with g | g | g
    · have := List.pairwise_iff_getElem.1 h.ids i j il.1 jl.1 g
      rw [il.2, jl.2] at this
      omega
    · subst g; rw [hi] at hj; exact (Option.some.inj hj).symm
    · have := List.pairwise_iff_getElem.1 h.ids j i jl.1 il.1 g
      rw [il.2, jl.2] at this
      omega
  unfold plM at h1 h2
  split at h1
  · obtain ⟨e, he, e1, e2⟩ := mkM_some R i id h1
    split at h2
    · obtain ⟨y, hy, y1, y2⟩ := mkM_some R j id h2
      rw [e1, y1, key e he y hy (by omega)]
    · have := h.id_lt h2
      have := h.new e he
      omega
  · split at h2
    · obtain ⟨y, hy, y1, y2⟩ := mkM_some R j id h2
      have := h.id_lt h1
      have := h.new y hy
      omega
    · exact h.inj i j id h1 h2
theorem inj_lo {dn : Int → Prop} (hinj : ∀ i j id, m i = some id → m j = some id → i = j) (i j id : Int) (h1 : loM m dn i = some id) (h2 : loM m dn j = some id) : i = j := by
  unfold loM at h1 h2
  split at h1
  · cases h1
  · split at h2
    · cases h2
    · exact hinj i j id h1 h2
end
end Go.Proofs.YtlhfjaagkgengaaGreat
namespace Go.Proofs.YtlhfjaagkgengaaGreat
open Go.RowKit Go.Maps
set_option linter.unusedVariables false
set_option linter.unusedSimpArgs false
/-- A space, as plain values. -/
structure Spc where
  D : SpD
  A : Option Addr
  cap : Nat
  L : List Rg
  m : Pm
  n : Nat
def Spc.ow (s : Spc) (q : Nat) : Prop := spO s.D s.A s.L.length q
def injM (m : Pm) : Prop := ∀ i j id, m i = some id → m j = some id → i = j
/-- Spaces on one pager. -/
structure SW {σ : Type} {K : SnkF σ} (M : Snk K) (P : PSnk K) (w : World) (d : PD) (t : PSt σ) (C : Cu) (k : Nat) (l : List Spc) : Prop where
  pv : Pv M P w d t C k
  ss : ∀ s ∈ l, SS M P w d t C k s.D s.A s.cap s.L s.m s.n
  dj : l.Pairwise fun a b => ∀ q, a.ow q → ¬ b.ow q
  us : UsOk C (l.map (·.m))
  inj : ∀ s ∈ l, injM s.m
  num : l.length ≤ 1000
/-- What belongs to them. -/
def swO {σ : Type} (d : PD) (t : PSt σ) (l : List Spc) (q : Nat) : Prop := Own d t q ∨ ∃ s ∈ l, s.ow q
structure SwN {σ : Type} {K : SnkF σ} (P : PSnk K) (w w' : World) (d : PD) (t t' : PSt σ) (l l' : List Spc) : Prop where
  off : Off (swO d t l) w w'
  own : ∀ q, swO d t' l' q → swO d t l q ∨ w.heap.size ≤ q
  rm : P.room t.s < 0 → P.room t'.s < 0
section
variable {σ : Type} {K : SnkF σ} {M : Snk K} {P : PSnk K} {w w' w1 w2 w3 : World} {d : PD} {t t' t1 t2 : PSt σ} {C C' C1 : Cu} {k k0 k1 k2 : Nat} {l l' l1 l2 : List Spc} {s s' : Spc} {S : Nat → Prop}
theorem SwN.refl : SwN P w w d t t l l := ⟨Off.refl _ _, fun _ => .inl, id⟩
theorem SwN.up (h : SwN P w w1 d t t' l l') (hb : Below w1.heap.size w1 w2) : SwN P w w2 d t t' l l' := ⟨h.off.step hb, h.own, h.rm⟩
theorem SwN.trans (h : SwN P w w1 d t t1 l l1) (g : SwN P w1 w2 d t1 t2 l1 l2) : SwN P w w2 d t t2 l l2 := by
  refine ⟨h.off.late g.off (fun i hi ho => ?_), fun i ho => ?_, fun e => g.rm (h.rm e)⟩
  · rcases h.own i ho with e | e
    · exact e
    · omega
  · rcases g.own i ho with e | e
    · exact h.own i e
    · have := h.off.size; exact .inr (by omega)
theorem SwN.keep (h : SwN P w w' d t t' l l') {b : Nat} (hb : b < w.heap.size) (hn : ¬ swO d t l b) : b < w'.heap.size ∧ ¬ swO d t' l' b :=
  ⟨Nat.lt_of_lt_of_le hb h.off.size, fun e => by rcases h.own b e with e | e; exact hn e; omega⟩
theorem SW.lt (h : SW M P w d t C k l) {b : Nat} (hb : swO d t l b) : b < w.heap.size := by
  rcases hb with hb | ⟨s, hs, hb⟩
  · exact h.pv.lt hb
  · exact (h.ss s hs).sp.lt hb
theorem SW.up (h : SW M P w d t C k l) (hb : Below w.heap.size w w') : SW M P w' d t C k l := ⟨h.pv.up hb, fun s hs => (h.ss s hs).up hb, h.dj, h.us, h.inj, h.num⟩
theorem SW.less (hK : K.Good) (h : SW M P w d t C k l) {k' : Nat} (hk : k' ≤ k) : SW M P w d t C k' l := ⟨h.pv.less hK hk, fun s hs => (h.ss s hs).less hK hk, h.dj, h.us, h.inj, h.num⟩
/-- Others' blocks have changed. -/
theorem SW.off (h : SW M P w d t C k l) (ho : Off S w w') (h1 : ∀ b, S b → ¬ swO d t l b) : SW M P w' d t C k l :=
  ⟨h.pv.offL ho (fun b hb e => h1 b hb (.inl e)), fun s hs => (h.ss s hs).offL ho (fun b hb e => h1 b hb (.inl e)) (fun b hb e => h1 b hb (.inr ⟨s, hs, e⟩)), h.dj, h.us, h.inj, h.num⟩
theorem swO_perm (hp : l.Perm l') {q : Nat} : swO d t l q ↔ swO d t l' q := by
  unfold swO
  constructor
  · rintro (h | ⟨s, hs, h⟩)
    · exact .inl h
    · exact .inr ⟨s, hp.mem_iff.1 hs, h⟩
  · rintro (h | ⟨s, hs, h⟩)
    · exact .inl h
    · exact .inr ⟨s, hp.mem_iff.2 hs, h⟩
theorem SW.perm (h : SW M P w d t C k l) (hp : l.Perm l') : SW M P w d t C k l' :=
  ⟨h.pv, fun s hs => h.ss s (hp.mem_iff.2 hs), (hp.pairwise_iff (fun {a b} hab q hb ha => hab q ha hb)).1 h.dj, h.us.perm (hp.map _), fun s hs => h.inj s (hp.mem_iff.2 hs), by rw [← hp.length_eq]; exact h.num⟩
theorem SwN.perm {l1' l2' : List Spc} (h : SwN P w w' d t t' l1 l2) (h1 : l1.Perm l1') (h2 : l2.Perm l2') : SwN P w w' d t t' l1' l2' :=
  ⟨h.off.mono fun b hb => (swO_perm h1).1 hb, fun q hq => (h.own q ((swO_perm h2).2 hq)).imp (swO_perm h1).1 id, h.rm⟩
theorem SW.use (h : SW M P w d t C k l) (hs : s ∈ l) {i id : Int} {b : Bytes} {u : Int} (hm : s.m i = some id) (hc : C id = some (b, u)) : 1 ≤ u ∧ u ≤ 1000 := by
  obtain ⟨h1, h2⟩ := h.us.got hc
  have := cntI_le (l.map (·.m)) id
  rw [List.length_map] at this
  have := h.num
  omega
/-- One space has done something. -/
theorem SW.next (h : SW M P w d t C k0 (s :: l)) (hx : Nxs P S w w' d t t') (hS : ∀ q, S q → s.ow q) (hs : SS M P w' d t' C' k s'.D s'.A s'.cap s'.L s'.m s'.n) (hu : UsOk C' (s'.m :: l.map (·.m))) (hi : injM s'.m)
    (hw : ∀ q, s'.ow q → s.ow q ∨ w.heap.size ≤ q) : SW M P w' d t' C' k (s' :: l) ∧ SwN P w w' d t t' (s :: l) (s' :: l) := by
  obtain ⟨hd1, hd2⟩ := List.pairwise_cons.1 h.dj
  refine ⟨⟨hs.pv, fun x hx2 => ?_, List.pairwise_cons.2 ⟨fun x hx2 q hq e => ?_, hd2⟩, hu, fun x hx2 => ?_, h.num⟩, ⟨hx.off.mono ?_, ?_, hx.rm⟩⟩
  · rcases List.mem_cons.1 hx2 with rfl | hx2
    · exact hs
    · have g := h.ss x (List.mem_cons_of_mem _ hx2)
      exact ⟨g.sp.off hx.off (fun q hq e => by
          rcases hq with hq | hq
          · exact g.sep q e hq
          · exact hd1 x hx2 q (hS q hq) e), hs.pv, g.ok, g.q, g.z, fun q hq => (hx.keep (g.sp.lt hq) (g.sep q hq)).2,
        fun i id hm => hu.at (List.mem_cons_of_mem _ (List.mem_map.2 ⟨x, hx2, rfl⟩)) hm, g.len⟩
  · rcases hw q hq with e2 | e2
    · exact hd1 x hx2 q e2 e
    · have := (h.ss x (List.mem_cons_of_mem _ hx2)).sp.lt e
      omega
  · rcases List.mem_cons.1 hx2 with rfl | hx2
    · exact hi
    · exact h.inj x (List.mem_cons_of_mem _ hx2)
  · rintro b (hb | hb)
    · exact .inl hb
    · exact .inr ⟨s, List.mem_cons_self, hS b hb⟩
  · rintro q (hq | ⟨x, hx2, hq⟩)
    · exact (hx.own q hq).imp .inl id
    · rcases List.mem_cons.1 hx2 with rfl | hx2
      · exact (hw q hq).imp (fun e => .inr ⟨s, List.mem_cons_self, e⟩) id
      · exact .inl (.inr ⟨x, List.mem_cons_of_mem _ hx2, hq⟩)
theorem offSelf (ho : Off S w w') (hP : ∀ q, S q → s.ow q) : Nxs P S w w' d t t := ⟨ho.mono fun _ => .inr, fun _ => .inl, id⟩
/-- What they hold. -/
def Spc.mem (s : Spc) (C : Cu) : Nat → Bytes := memF s.D.pg C s.m
theorem SW.memLen (h : SW M P w d t C k l) (hs : s ∈ l) (i : Nat) : (s.mem C i).length = s.D.pg := by
  unfold Spc.mem
  have g := h.ss s hs
  rw [g.z]
  exact memF_len g i
/-- Load. -/
def LdW (M : Snk K) (P : PSnk K) (w : World) (d : PD) (t : PSt σ) (C : Cu) (k : Nat) (s : Spc) (l : List Spc) (a j : Int) (e : Ending) (w' : World) : Prop :=
  ∃ t', SW M P w' d t' C k (s :: l) ∧ SwN P w w' d t t' (s :: l) (s :: l) ∧ t'.nx = t.nx ∧
    ((checkF s.D s.L a j 1 ≠ 0 ∧ e = .returned (.tuple #[.slice none 0 0, .int .i64 (checkF s.D s.L a j 1)])) ∨
     (checkF s.D s.L a j 1 = 0 ∧ ∃ A' c', e = .returned (.tuple #[.slice A' j.toNat c', .int .i64 0]) ∧ OwB w.heap.size w' (.slice A' j.toNat c') (rngF (flatF s.D.pg (s.mem C)) a.toNat j.toNat) ∧ ∀ g, (Value.slice A' j.toNat c').ownBlock = some g → ¬ swO d t' (s :: l) g) ∨
     (checkF s.D s.L a j 1 = 0 ∧ ¬ P.room t.s < 0 ∧ e = .returned (.tuple #[.slice none 0 0, .int .i64 P.ez])))
theorem SW.load (hK : K.Good) (hmi : P.Miss) (a j : Int) (h : SW M P w d t C (k + (partsL s.D.pg a.toNat j.toNat).length) (s :: l)) :
    Calls Tryz.prog 18 #[.pointer (some ⟨s.D.X, 0, none⟩), .int .i64 a, .int .i64 j] w (LdW M P w d t C k s l a j) := by
  have g := h.ss s List.mem_cons_self
  refine (load_b hK hmi a j g).mono ?_
  rintro e w' ⟨t', hs, hx, hn, _, hc⟩
  obtain ⟨h1, h2⟩ := h.next (s' := s) (S := fun _ => False) hx.nxs (fun q e => e.elim) hs h.us (h.inj s List.mem_cons_self) (fun q => .inl)
  refine ⟨t', h1, h2, hn, ?_⟩
  rcases hc with ⟨c1, c2⟩ | ⟨c1, A', c', c2, c3, c4⟩ | c
  · exact .inl ⟨c1, c2⟩
  · refine .inr (.inl ⟨c1, A', c', c2, ?_, fun q hq => ?_⟩)
    · have hz : 0 < s.D.pg := by have := g.ok.b4; omega
      rw [show partsL s.D.pg a.toNat j.toNat = partsN s.D.pg j.toNat a.toNat j.toNat from rfl, show memF s.D.pg C s.m = s.mem C from rfl, loadF_flat hz (fun i => h.memLen List.mem_cons_self i) _ _ _ (Nat.le_refl _)] at c3
      exact c3
    · rintro (e | e)
      · exact c4 q hq e
      · have := h.lt (.inr e)
        have := (c3.lt q hq).1
        omega
  · exact .inr (.inr c)
/-- Store. -/
structure StW (s : Spc) (C C' : Cu) (m' : Pm) (N : Nat) (a : Nat) (bs : Bytes) : Prop where
  flat : ∀ i, flatF s.D.pg (memF s.D.pg C' m') i = if a ≤ i ∧ i < a + bs.length then bs.getD (i - a) 0 else flatF s.D.pg (s.mem C) i
  dom : ∀ i, (m' i).isSome = true ↔ (s.m i).isSome = true ∨ ∃ j : Nat, a ≤ j ∧ j < a + bs.length ∧ ((j / s.D.pg : Nat) : Int) = i
  new : ∀ i, m' i = s.m i ∨ (∃ j : Nat, a ≤ j ∧ j < a + bs.length ∧ ((j / s.D.pg : Nat) : Int) = i) ∧ ∃ id : Nat, m' i = some (id : Int) ∧ N ≤ id
def SrW (M : Snk K) (P : PSnk K) (w : World) (d : PD) (t : PSt σ) (C : Cu) (k : Nat) (s : Spc) (l : List Spc) (a : Int) (bs : Bytes) (e : Ending) (w' : World) : Prop :=
  ∃ t' C' m' n', SW M P w' d t' C' k ({ s with m := m', n := n' } :: l) ∧ SwN P w w' d t t' (s :: l) ({ s with m := m', n := n' } :: l) ∧ (∀ x ∈ l, x.mem C' = x.mem C) ∧
    ((checkF s.D s.L a bs.length 2 ≠ 0 ∧ e = .returned (.int .i64 (checkF s.D s.L a bs.length 2)) ∧ C' = C ∧ m' = s.m ∧ n' = s.n) ∨
     (checkF s.D s.L a bs.length 2 = 0 ∧ e = .returned (.int .i64 0) ∧ StW s C C' m' t.nx a.toNat bs) ∨
     (checkF s.D s.L a bs.length 2 = 0 ∧ ¬ P.room t.s < 0 ∧ e = .returned (.int .i64 P.ez) ∧ C' = C ∧ m' = s.m ∧ n' = s.n))
theorem SW.store (hK : K.Good) (hmi : P.Miss) (a : Int) {bA : Option Addr} {bn bc : Nat} {bs : Bytes} (h : SW M P w d t C (k + 2 * (partsL s.D.pg a.toNat bs.length).length) (s :: l)) (hS : SBy w bA bn bs) (hbc : bn ≤ bc) (hbn : bn ≤ 9223372036854775807) (hV : VIn (fun g => g < w.heap.size ∧ ¬ Own d t g) (.slice bA bn bc)) :
    Calls Tryz.prog 17 #[.pointer (some ⟨s.D.X, 0, none⟩), .int .i64 a, .slice bA bn bc] w (SrW M P w d t C k s l a bs) := by
  have g := h.ss s List.mem_cons_self
  have hi := h.inj s List.mem_cons_self
  refine (store_b hK hmi a g hS hbc hbn hV hi (fun i id b u hm hc => by have := h.use List.mem_cons_self hm hc; omega)).mono ?_
  rintro e w' ⟨t', hx, hc⟩
  have hS' : ∀ q, q = s.D.Mm → s.ow q := fun q hq => .inr (.inl hq)
  rcases hc with ⟨c1, c2, c3, c4⟩ | ⟨c1, c2, c3, n', c4⟩ | ⟨c1, c2, c3, c4, c5⟩
  · obtain ⟨h1, h2⟩ := h.next (s' := s) hx hS' c3 h.us hi (fun q => .inl)
    exact ⟨t', C, s.m, s.n, h1, h2, fun _ _ => rfl, .inl ⟨c1, c2, rfl, rfl, rfl⟩⟩
  · have hz : 0 < s.D.pg := by have := g.ok.b4; omega
    have hp := partsN_pair s.D.pg hz bs.length a.toNat bs.length
    have hin : ∀ x ∈ partsN s.D.pg bs.length a.toNat bs.length, x.o + x.n ≤ s.D.pg := fun x hx => (partsN_in s.D.pg hz _ _ _ x hx).1
    have hsum := partsN_sumN s.D.pg hz bs.length a.toNat bs.length (Nat.le_refl _)
    rw [show partsL s.D.pg a.toNat bs.length = partsN s.D.pg bs.length a.toNat bs.length from rfl] at c4
    have hmk : MkOk C s.m (mkF s.D.pg C s.m t.nx (partsN s.D.pg bs.length a.toNat bs.length) bs) t.nx := ⟨(mkF_ids s.D.pg C s.m _ t.nx bs).1, mkF_places s.D.pg C s.m _ t.nx bs hp, fun e he => (mkF_mem s.D.pg C s.m _ t.nx bs e he).1, fun i p hp => (h.pv.id1 i p hp).2, g.has, hi⟩
    have hml := fun i => h.memLen (s := s) List.mem_cons_self i
    have hmem := memF_pl (nx := t.nx) hml hp hin hsum.symm hmk h.us
    have hd := dom_pl hml hp hin hsum.symm hmk
    have hplace := mkF_mem s.D.pg C s.m (partsN s.D.pg bs.length a.toNat bs.length) t.nx bs
    generalize mkF s.D.pg C s.m t.nx (partsN s.D.pg bs.length a.toNat bs.length) bs = R at c4 hmk hmem hd hplace
    obtain ⟨h1, h2⟩ := h.next (s' := { s with m := plM s.m R (dnS R), n := n' }) hx hS' c4 (h.us.pl hmk) (inj_pl hmk) (fun q => .inl)
    refine ⟨t', plC C s.m R (dnS R), plM s.m R (dnS R), n', h1, h2, fun x hx2 => ?_, .inr (.inl ⟨c1, c2, ⟨fun i => ?_, fun i => ?_, fun i => ?_⟩⟩)⟩
    · refine memF_same fun i id hm => ?_
      obtain ⟨p, hp⟩ := h.us.at (m := x.m) (List.mem_map.2 ⟨x, List.mem_cons_of_mem _ hx2, rfl⟩) hm
      obtain ⟨p', hp'⟩ := h1.us.at (m := x.m) (List.mem_map.2 ⟨x, List.mem_cons_of_mem _ hx2, rfl⟩) hm
      obtain ⟨u, hu⟩ := pl_bytes hmk (hmk.old id p hp) hp'
      exact ⟨p', u, hp', hu⟩
    · have := (stF_flat hz bs.length a.toNat bs.length bs (s.mem C) hml rfl (Nat.le_refl _)).2 i
      rw [← this]
      exact congrArg (fun f => flatF s.D.pg f i) hmem
    · rw [hd i]
      refine or_congr Iff.rfl ⟨?_, ?_⟩
      · rintro ⟨x, hx3, rfl⟩
        obtain ⟨j, j1, j2, j3⟩ := (partsN_hit hz bs.length a.toNat bs.length (Nat.le_refl _) x.p).1 ⟨x, hx3, rfl⟩
        exact ⟨j, j1, j2, by rw [j3]⟩
      · rintro ⟨j, j1, j2, rfl⟩
        obtain ⟨x, hx3, e⟩ := (partsN_hit hz bs.length a.toNat bs.length (Nat.le_refl _) (j / s.D.pg)).2 ⟨j, j1, j2, rfl⟩
        exact ⟨x, hx3, by rw [e]⟩
    · by_cases c : ∃ e ∈ R, (e.p : Int) = i
      · obtain ⟨e, he, rfl⟩ := c
        obtain ⟨_, x, hx3, e1⟩ := hplace e he
        obtain ⟨j, j1, j2, j3⟩ := (partsN_hit hz bs.length a.toNat bs.length (Nat.le_refl _) x.p).1 ⟨x, hx3, rfl⟩
        exact .inr ⟨⟨j, j1, j2, by rw [j3, e1]⟩, e.id, (pl_new hmk he).2, hmk.new e he⟩
      · exact .inl (pl_off hmk fun e he e2 => c ⟨e, he, e2⟩)
  · obtain ⟨h1, h2⟩ := h.next (s' := s) hx hS' c4 h.us hi (fun q => .inl)
    exact ⟨t', C, s.m, s.n, h1, h2, fun _ _ => rfl, .inr (.inr ⟨c1, c2, c3, rfl, rfl, rfl⟩)⟩
/-- Regions change. -/
def RsW (M : Snk K) (P : PSnk K) (w : World) (d : PD) (t : PSt σ) (C : Cu) (k : Nat) (s : Spc) (l : List Spc) (R : List Rg × Int) (e : Ending) (w' : World) : Prop :=
  e = .returned (.int .i64 R.2) ∧ ∃ A' cap', SW M P w' d t C k ({ s with A := A', cap := cap', L := if R.2 = 0 then R.1 else s.L } :: l) ∧ SwN P w w' d t t (s :: l) ({ s with A := A', cap := cap', L := if R.2 = 0 then R.1 else s.L } :: l)
theorem SW.regs (h : SW M P w d t C k (s :: l)) {R : List Rg × Int} {e : Ending} (hr : RsPost M P w d t C k s.D s.A s.cap s.L s.m s.n R e w') : RsW M P w d t C k s l R e w' := by
  obtain ⟨he, ho, hc⟩ := hr
  have hS' : ∀ q, q = s.D.X → s.ow q := fun q hq => .inl hq
  have hx : Nxs P (· = s.D.X) w w' d t t := ⟨ho.mono fun _ => .inr, fun _ => .inl, id⟩
  refine ⟨he, ?_⟩
  rcases hc with ⟨c1, A', cap', hs, hA⟩ | ⟨c1, hs⟩
  · rw [if_pos c1]
    obtain ⟨h1, h2⟩ := h.next (s' := { s with A := A', cap := cap', L := R.1 }) hx hS' hs h.us (h.inj s List.mem_cons_self) (fun q hq => by
      rcases hq with hq | hq | hq
      · exact .inl (.inl hq)
      · exact .inl (.inr (.inl hq))
      · exact .inr (hA q hq))
    exact ⟨A', cap', h1, h2⟩
  · rw [if_neg c1]
    obtain ⟨h1, h2⟩ := h.next (s' := s) hx hS' hs h.us (h.inj s List.mem_cons_self) (fun q => .inl)
    exact ⟨s.A, s.cap, h1, h2⟩
end
end Go.Proofs.YtlhfjaagkgengaaGreat
