/- A pager over a shelf, as a law sees it: which pages there are, what they hold. -/
import Derived.Test.YtmipngefpedfpaaPu
namespace Go.Proofs.Ytmipngefpedfpaa
open Go.RowKit Go.Maps
set_option linter.unusedVariables false
set_option linter.unusedSimpArgs false

abbrev Cn := Int → Option (Option Bytes)
def updC (C : Cn) (id : Int) (x : Option (Option Bytes)) : Cn := fun k => if k = id then x else C k
theorem updC_same (C : Cn) (i : Int) (x : Option (Option Bytes)) : updC C i x i = x := by unfold updC; rw [if_pos rfl]
theorem updC_ne (C : Cn) (x : Option (Option Bytes)) {i j : Int} (h : j ≠ i) : updC C i x j = C j := by unfold updC; rw [if_neg h]
/-- The pager at w holds C; k steps more may be taken. -/
structure Vw (S : Nat) (w0 w : World) (d : PD) (t : PSt ShS) (C : Cn) (R : Prop) (k : Nat) : Prop where
  at_ : PgrAt (shM S) w d t
  inv : PI shP d t
  own : ∀ k, Own d t k → w0.heap.size ≤ k
  bel : Below w0.heap.size w0 w
  hole : t.hole = none
  dom : ∀ i, C i = none → t.pm i = none
  con : ∀ i b, C i = some (some b) → ∃ x, t.pm i = some x ∧ cont (shP.rd t.s) d.z x = some b ∧ b.length = d.z
  room : R → shP.room t.s < 0
  rdy : shK.Rdy t.s k
  nb : t.nx + k ≤ 2000000
  id1 : ∀ i o, C i = some o → 1 ≤ i ∧ i < t.nx
/-- A step of the pager: what the law sees beside what pages hold. -/
structure Nx (S : Nat) (w w' : World) (d : PD) (t t' : PSt ShS) : Prop where
  off : Off (Own d t) w w'
  own : ∀ k, Own d t' k → Own d t k ∨ w.heap.size ≤ k
section
variable {S : Nat} {w0 w w' w1 w2 : World} {d : PD} {t t' t1 t2 : PSt ShS} {C C' : Cn} {R : Prop} {k k1 k2 : Nat} {id : Int} {E : Int → Prop}
theorem Nx.refl : Nx S w w d t t := ⟨Off.refl _ _, fun _ => .inl⟩
theorem Nx.of (h : Stp (shM S) shP w w' d t t') : Nx S w w' d t t' := ⟨h.off, h.own⟩
theorem Nx.up (h : Nx S w w1 d t t') (hb : Below w1.heap.size w1 w2) : Nx S w w2 d t t' := ⟨h.off.step hb, h.own⟩
theorem Nx.trans (h : Nx S w w1 d t t1) (g : Nx S w1 w2 d t1 t2) : Nx S w w2 d t t2 := by
  refine ⟨h.off.late g.off (fun i hi ho => ?_), fun i ho => ?_⟩
  · rcases h.own i ho with e | e
    · exact e
    · omega
  · rcases g.own i ho with e | e
    · exact h.own i e
    · have := h.off.size; exact .inr (by omega)
/-- A block of the law's own stays so. -/
theorem Nx.keep (h : Nx S w w' d t t') {b : Nat} (hb : b < w.heap.size) (hn : ¬ Own d t b) : b < w'.heap.size ∧ ¬ Own d t' b :=
  ⟨Nat.lt_of_lt_of_le hb h.off.size, fun e => (h.own b e).elim hn (fun e => by omega)⟩
theorem Nx.cell (h : Nx S w w' d t t') {b o : Nat} (hb : b < w.heap.size) (hn : ¬ Own d t b) : w'.cell? ⟨b, o, none⟩ = w.cell? ⟨b, o, none⟩ := h.off.cell (p := ⟨b, o, none⟩) hb hn
theorem Nx.frozen (h : Nx S w w' d t t') {b o : Nat} (hb : b < w.heap.size) (hn : ¬ Own d t b) : w'.frozen? ⟨b, o, none⟩ = w.frozen? ⟨b, o, none⟩ := h.off.frozen (p := ⟨b, o, none⟩) hb hn
theorem Vw.lt (h : Vw S w0 w d t C R k) {b : Nat} (hb : Own d t b) : b < w.heap.size := h.at_.ltO hb
theorem Vw.up (h : Vw S w0 w d t C R k) (hb : Below w.heap.size w w') : Vw S w0 w' d t C R k := ⟨h.at_.up hb, h.inv, h.own, h.bel.trans (hb.mono h.bel.size), h.hole, h.dom, h.con, h.room, h.rdy, h.nb, h.id1⟩
theorem Vw.less (h : Vw S w0 w d t C R k) {k' : Nat} (hk : k' ≤ k) : Vw S w0 w d t C R k' := ⟨h.at_, h.inv, h.own, h.bel, h.hole, h.dom, h.con, h.room, shK_good.mono _ _ _ h.rdy hk, by have := h.nb; omega, h.id1⟩
/-- The law's own blocks have changed. -/
theorem Vw.offL {L : Nat → Prop} (h : Vw S w0 w d t C R k) (ho : Off L w w') (hL : ∀ b, L b → ¬ Own d t b) (hw : ∀ b, L b → w0.heap.size ≤ b) : Vw S w0 w' d t C R k :=
  ⟨h.at_.off ho (fun k hk e => hL k e (.inl hk)) ((shM S).off h.at_.at_ ho (fun k e hk => hL k e (.inr hk))) (fun _ => .inl), h.inv, h.own, h.bel.trans (ho.below hw h.bel.size), h.hole, h.dom, h.con, h.room, h.rdy, h.nb, h.id1⟩
theorem Vw.idb (h : Vw S w0 w d t C R k) {o : Option Bytes} (hC : C id = some o) : -9223372036854775808 ≤ id ∧ id ≤ 9223372036854775807 := by
  obtain ⟨h1, h2⟩ := h.id1 id o hC
  have := h.nb
  omega
/-- Nothing is written. -/
theorem Vw.step (h : Vw S w0 w d t C R k) {j : Nat} (hs : Stp (shM S) shP w w' d t t') (he : Ev shP d.z j none9 t t') (hn : Num t t') (hk : k1 + j ≤ k) : Vw S w0 w' d t' C R k1 := by
  refine ⟨hs.at_, hs.inv, fun b hb => ?_, h.bel.trans (hs.off.below (fun b hb => h.own b hb) h.bel.size), by rw [hn.hole]; exact h.hole, fun i hi => he.no i (fun e => e) (h.dom i hi), fun i b hb => ?_, fun r => he.room (h.room r), he.rdy _ (shK_good.mono _ _ _ h.rdy hk), by rw [hn.nx]; have := h.nb; omega, fun i o e => by rw [hn.nx]; exact h.id1 i o e⟩
  · rcases hs.own b hb with e | e
    · exact h.own b e
    · have := h.bel.size; omega
  · obtain ⟨x, e1, e2, e3⟩ := h.con i b hb
    obtain ⟨x', f1, _, _, _, _, f6⟩ := he.pg i x (fun e => e) e1
    exact ⟨x', f1, f6 b e2, e3⟩
/-- A page is written. -/
theorem Vw.put (h : Vw S w0 w d t C R k) {j : Nat} {o : Option Bytes} {x' : Pg} {b : Bytes} (hs : Stp (shM S) shP w w' d t t') (he : Ev shP d.z j (· = id) t t') (hn : Num t t') (hk : k1 + j ≤ k) (hC : C id = some o) (hx : t'.pm id = some x') (hc : cont (shP.rd t'.s) d.z x' = some b) (hl : b.length = d.z) : Vw S w0 w' d t' (updC C id (some (some b))) R k1 := by
  refine ⟨hs.at_, hs.inv, fun b hb => ?_, h.bel.trans (hs.off.below (fun b hb => h.own b hb) h.bel.size), by rw [hn.hole]; exact h.hole, fun i hi => ?_, fun i b' hb => ?_, fun r => he.room (h.room r), he.rdy _ (shK_good.mono _ _ _ h.rdy hk), by rw [hn.nx]; have := h.nb; omega, fun i o' e => ?_⟩
  · rcases hs.own b hb with e | e
    · exact h.own b e
    · have := h.bel.size; omega
  · unfold updC at hi
    split at hi
    · cases hi
    · rename_i hne
      exact he.no i hne (h.dom i hi)
  · unfold updC at hb
    split at hb
    · rename_i hid
      cases hb
      rw [hid]
      exact ⟨x', hx, hc, hl⟩
    · rename_i hne
      obtain ⟨x, e1, e2, e3⟩ := h.con i b' hb
      obtain ⟨x2, f1, _, _, _, _, f6⟩ := he.pg i x hne e1
      exact ⟨x2, f1, f6 b' e2, e3⟩
  · rw [hn.nx]
    unfold updC at e
    split at e
    · rename_i hid
      rw [hid]
      exact h.id1 id o hC
    · exact h.id1 i o' e
/-- A page more. -/
theorem Vw.more (h : Vw S w0 w d t C R k) {j : Nat} {y : Pg} {o : Option Bytes} (hs : Stp (shM S) shP w w' d t t') (hm : Mk shP d.z j t t' y) (hk : k1 + j + 1 ≤ k) (ho : ∀ b, o = some b → cont (shP.rd t'.s) d.z y = some b ∧ b.length = d.z) : Vw S w0 w' d t' (updC C t.nx (some o)) R k1 := by
  refine ⟨hs.at_, hs.inv, fun b hb => ?_, h.bel.trans (hs.off.below (fun b hb => h.own b hb) h.bel.size), hm.hole, fun i hi => ?_, fun i b' hb => ?_, fun r => hm.ev.room (h.room r), hm.ev.rdy _ (shK_good.mono _ _ _ h.rdy (by omega)), by rw [hm.nx]; have := h.nb; omega, fun i o' e => ?_⟩
  · rcases hs.own b hb with e | e
    · exact h.own b e
    · have := h.bel.size; omega
  · unfold updC at hi
    split at hi
    · cases hi
    · rename_i hne
      exact hm.ev.no i hne (h.dom i hi)
  · unfold updC at hb
    split at hb
    · rename_i hid
      rw [hid]
      obtain ⟨g1, g2⟩ := ho b' (Option.some.inj hb)
      exact ⟨y, hm.pg, g1, g2⟩
    · rename_i hne
      obtain ⟨x, e1, e2, e3⟩ := h.con i b' hb
      obtain ⟨x2, f1, _, _, _, _, f6⟩ := hm.ev.pg i x hne e1
      exact ⟨x2, f1, f6 b' e2, e3⟩
  · rw [hm.nx]
    unfold updC at e
    split at e
    · rename_i hid
      rw [hid]
      have := h.inv.nx1
      omega
    · obtain ⟨g1, g2⟩ := h.id1 i o' e
      exact ⟨g1, by omega⟩
/-- A page less. -/
theorem Vw.del (h : Vw S w0 w d t C R k) (hs : Stp (shM S) shP w w' d t t') (hp : t'.pm = updP t.pm id none) (hx : t'.nx = t.nx) (hh : t'.hole = t.hole) (hss : t'.s = t.s) : Vw S w0 w' d t' (updC C id none) R k := by
  refine ⟨hs.at_, hs.inv, fun b hb => ?_, h.bel.trans (hs.off.below (fun b hb => h.own b hb) h.bel.size), by rw [hh]; exact h.hole, fun i hi => ?_, fun i b' hb => ?_, fun r => by rw [hss]; exact h.room r, by rw [hss]; exact h.rdy, by rw [hx]; exact h.nb, fun i o' e => ?_⟩
  · rcases hs.own b hb with e | e
    · exact h.own b e
    · have := h.bel.size; omega
  · rw [hp]
    unfold updC at hi
    unfold updP
    split
    · rfl
    · rename_i hne
      rw [if_neg hne] at hi
      exact h.dom i hi
  · unfold updC at hb
    split at hb
    · cases hb
    · rename_i hne
      obtain ⟨x, e1, e2, e3⟩ := h.con i b' hb
      rw [hp, hss]
      exact ⟨x, (updP_ne _ _ hne).trans e1, e2, e3⟩
  · rw [hx]
    unfold updC at e
    split at e
    · cases e
    · exact h.id1 i o' e
/-- The sink has been asked by the law itself. -/
theorem Vw.sink (h : Vw S w0 w d t C R k) {O' : Nat → Prop} {s' : ShS} (ha : (shM S).At w' O' s') (ho : Off t.O w w') (hO : ∀ k, O' k → t.O k ∨ w.heap.size ≤ k) (hin : shP.In s') (hrd : SubR (shP.rd t.s) (shP.rd s')) (hroom : R → shP.room s' < 0) (hrdy : shK.Rdy s' k1) (hk : k1 ≤ k) :
    Vw S w0 w' d { t with O := O', s := s' } C R k1 ∧ Nx S w w' d t { t with O := O', s := s' } := by
  have hnx : Nx S w w' d t { t with O := O', s := s' } := ⟨ho.mono fun k e => .inr e, fun b hb => by
    rcases hb with e | e
    · exact .inl (.inl e)
    · rcases hO b e with f | f
      · exact .inl (.inr f)
      · exact .inr f⟩
  refine ⟨⟨h.at_.off ho h.at_.nO ha hO, ⟨hin, h.inv.kv, h.inv.pz, h.inv.res, h.inv.has, fun i x hx hp => ?_, h.inv.zer, h.inv.dty, h.inv.ids, h.inv.hol, h.inv.nx1⟩, fun b hb => ?_, h.bel.trans (ho.below (fun b hb => h.own b (.inr hb)) h.bel.size), h.hole, h.dom, fun i b hb => ?_, hroom, hrdy, by have := h.nb; show t.nx + k1 ≤ _; omega, h.id1⟩, hnx⟩
  · obtain ⟨g1, g2⟩ := h.inv.put i x hx hp
    exact ⟨fun B c L e => hrd _ _ (g1 B c L e), fun e => hrd _ _ (g2 e)⟩
  · rcases hnx.own b hb with e | e
    · exact h.own b e
    · have := h.bel.size; omega
  · obtain ⟨x, e1, e2, e3⟩ := h.con i b hb
    exact ⟨x, e1, cont_sub hrd e2, e3⟩
end
end Go.Proofs.Ytmipngefpedfpaa
