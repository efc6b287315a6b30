/- A pager over a shelf, as a law sees it: which pages there are, what they hold. A pager over a shelf, as a law sees it: what each call answers. known of almanaclaw14: a page that is put out of memory, and read again. -/
import Derived.Test.YtmipngefpedfpaaPuZ
import Derived.Lib.SlBytesConst
namespace Go.Proofs.Ytmipngefpedfpaa
open Go.RowKit Go.Maps
set_option linter.unusedVariables false
set_option linter.unusedSimpArgs false

abbrev Cn := Int → Option (Option Bytes)
def updC (C : Cn) (id : Int) (x : Option (Option Bytes)) : Cn := fun k => if k = id then x else C k
theorem updC_same (C : Cn) (i : Int) (x : Option (Option Bytes)) : updC C i x i = x := by unfold updC; rw [if_pos rfl]
theorem updC_ne (C : Cn) (x : Option (Option Bytes)) {i j : Int} (h : j ≠ i) : updC C i x j = C j := by unfold updC; rw [if_neg h]
/-- The pager at w holds C; k steps more may be taken. -/
structure Vw (S : Nat) (w0 w : World) (d : PD) (t : PSt ShS) (C : Cn) (R : Prop) (k : Nat) : Prop where
  at_ : PgrAt (shM S) w d t
  inv : PI shP d t
  own : ∀ k, Own d t k → w0.heap.size ≤ k
  bel : Below w0.heap.size w0 w
  hole : t.hole = none
  dom : ∀ i, C i = none → t.pm i = none
  con : ∀ i b, C i = some (some b) → ∃ x, t.pm i = some x ∧ cont (shP.rd t.s) d.z x = some b ∧ b.length = d.z
  room : R → shP.room t.s < 0
  rdy : shK.Rdy t.s k
  nb : t.nx + k ≤ 2000000
  id1 : ∀ i o, C i = some o → 1 ≤ i ∧ i < t.nx
/-- A step of the pager: what the law sees beside what pages hold. -/
structure Nx (S : Nat) (w w' : World) (d : PD) (t t' : PSt ShS) : Prop where
  off : Off (Own d t) w w'
  own : ∀ k, Own d t' k → Own d t k ∨ w.heap.size ≤ k
section
variable {S : Nat} {w0 w w' w1 w2 : World} {d : PD} {t t' t1 t2 : PSt ShS} {C C' : Cn} {R : Prop} {k k1 k2 : Nat} {id : Int} {E : Int → Prop}
theorem Nx.refl : Nx S w w d t t := ⟨Off.refl _ _, fun _ => .inl⟩
theorem Nx.of (h : Stp (shM S) shP w w' d t t') : Nx S w w' d t t' := ⟨h.off, h.own⟩
theorem Nx.up (h : Nx S w w1 d t t') (hb : Below w1.heap.size w1 w2) : Nx S w w2 d t t' := ⟨h.off.step hb, h.own⟩
theorem Nx.trans (h : Nx S w w1 d t t1) (g : Nx S w1 w2 d t1 t2) : Nx S w w2 d t t2 := by
  refine ⟨h.off.late g.off (fun i hi ho => ?_), fun i ho => ?_⟩
  · rcases h.own i ho with e | e
    · exact e
    · omega
  · rcases g.own i ho with e | e
    · exact h.own i e
    · have := h.off.size; exact .inr (by omega)
/-- A block of the law's own stays so. -/
theorem Nx.keep (h : Nx S w w' d t t') {b : Nat} (hb : b < w.heap.size) (hn : ¬ Own d t b) : b < w'.heap.size ∧ ¬ Own d t' b :=
  ⟨Nat.lt_of_lt_of_le hb h.off.size, fun e => (h.own b e).elim hn (fun e => by omega)⟩
theorem Nx.cell (h : Nx S w w' d t t') {b o : Nat} (hb : b < w.heap.size) (hn : ¬ Own d t b) : w'.cell? ⟨b, o, none⟩ = w.cell? ⟨b, o, none⟩ := h.off.cell (p := ⟨b, o, none⟩) hb hn
theorem Nx.frozen (h : Nx S w w' d t t') {b o : Nat} (hb : b < w.heap.size) (hn : ¬ Own d t b) : w'.frozen? ⟨b, o, none⟩ = w.frozen? ⟨b, o, none⟩ := h.off.frozen (p := ⟨b, o, none⟩) hb hn
theorem Vw.lt (h : Vw S w0 w d t C R k) {b : Nat} (hb : Own d t b) : b < w.heap.size := h.at_.ltO hb
theorem Vw.up (h : Vw S w0 w d t C R k) (hb : Below w.heap.size w w') : Vw S w0 w' d t C R k := ⟨h.at_.up hb, h.inv, h.own, h.bel.trans (hb.mono h.bel.size), h.hole, h.dom, h.con, h.room, h.rdy, h.nb, h.id1⟩
theorem Vw.less (h : Vw S w0 w d t C R k) {k' : Nat} (hk : k' ≤ k) : Vw S w0 w d t C R k' := ⟨h.at_, h.inv, h.own, h.bel, h.hole, h.dom, h.con, h.room, shK_good.mono _ _ _ h.rdy hk, by have := h.nb; omega, h.id1⟩
/-- The law's own blocks have changed. -/
theorem Vw.offL {L : Nat → Prop} (h : Vw S w0 w d t C R k) (ho : Off L w w') (hL : ∀ b, L b → ¬ Own d t b) (hw : ∀ b, L b → w0.heap.size ≤ b) : Vw S w0 w' d t C R k :=
  ⟨h.at_.off ho (fun k hk e => hL k e (.inl hk)) ((shM S).off h.at_.at_ ho (fun k e hk => hL k e (.inr hk))) (fun _ => .inl), h.inv, h.own, h.bel.trans (ho.below hw h.bel.size), h.hole, h.dom, h.con, h.room, h.rdy, h.nb, h.id1⟩
theorem Vw.idb (h : Vw S w0 w d t C R k) {o : Option Bytes} (hC : C id = some o) : -9223372036854775808 ≤ id ∧ id ≤ 9223372036854775807 := by
  obtain ⟨h1, h2⟩ := h.id1 id o hC
  have := h.nb
  omega
/-- Nothing is written. -/
theorem Vw.step (h : Vw S w0 w d t C R k) {j : Nat} (hs : Stp (shM S) shP w w' d t t') (he : Ev shP d.z j none9 t t') (hn : Num t t') (hk : k1 + j ≤ k) : Vw S w0 w' d t' C R k1 := by
  refine ⟨hs.at_, hs.inv, fun b hb => ?_, h.bel.trans (hs.off.below (fun b hb => h.own b hb) h.bel.size), by rw [hn.hole]; exact h.hole, fun i hi => he.no i (fun e => e) (h.dom i hi), fun i b hb => ?_, fun r => he.room (h.room r), he.rdy _ (shK_good.mono _ _ _ h.rdy hk), by rw [hn.nx]; have := h.nb; omega, fun i o e => by rw [hn.nx]; exact h.id1 i o e⟩
  · rcases hs.own b hb with e | e
    · exact h.own b e
    · have := h.bel.size; omega
  · obtain ⟨x, e1, e2, e3⟩ := h.con i b hb
    obtain ⟨x', f1, _, _, _, _, f6⟩ := he.pg i x (fun e => e) e1
    exact ⟨x', f1, f6 b e2, e3⟩
/-- A page is written. -/
theorem Vw.put (h : Vw S w0 w d t C R k) {j : Nat} {o : Option Bytes} {x' : Pg} {b : Bytes} (hs : Stp (shM S) shP w w' d t t') (he : Ev shP d.z j (· = id) t t') (hn : Num t t') (hk : k1 + j ≤ k) (hC : C id = some o) (hx : t'.pm id = some x') (hc : cont (shP.rd t'.s) d.z x' = some b) (hl : b.length = d.z) : Vw S w0 w' d t' (updC C id (some (some b))) R k1 := by
  refine ⟨hs.at_, hs.inv, fun b hb => ?_, h.bel.trans (hs.off.below (fun b hb => h.own b hb) h.bel.size), by rw [hn.hole]; exact h.hole, fun i hi => ?_, fun i b' hb => ?_, fun r => he.room (h.room r), he.rdy _ (shK_good.mono _ _ _ h.rdy hk), by rw [hn.nx]; have := h.nb; omega, fun i o' e => ?_⟩
  · rcases hs.own b hb with e | e
    · exact h.own b e
    · have := h.bel.size; omega
  · unfold updC at hi
    split at hi
    · cases hi
    · rename_i hne
      exact he.no i hne (h.dom i hi)
  · unfold updC at hb
    split at hb
    · rename_i hid
      cases hb
      rw [hid]
      exact ⟨x', hx, hc, hl⟩
    · rename_i hne
      obtain ⟨x, e1, e2, e3⟩ := h.con i b' hb
      obtain ⟨x2, f1, _, _, _, _, f6⟩ := he.pg i x hne e1
      exact ⟨x2, f1, f6 b' e2, e3⟩
  · rw [hn.nx]
    unfold updC at e
    split at e
    · rename_i hid
      rw [hid]
      exact h.id1 id o hC
    · exact h.id1 i o' e
/-- A page more. -/
theorem Vw.more (h : Vw S w0 w d t C R k) {j : Nat} {y : Pg} {o : Option Bytes} (hs : Stp (shM S) shP w w' d t t') (hm : Mk shP d.z j t t' y) (hk : k1 + j + 1 ≤ k) (ho : ∀ b, o = some b → cont (shP.rd t'.s) d.z y = some b ∧ b.length = d.z) : Vw S w0 w' d t' (updC C t.nx (some o)) R k1 := by
  refine ⟨hs.at_, hs.inv, fun b hb => ?_, h.bel.trans (hs.off.below (fun b hb => h.own b hb) h.bel.size), hm.hole, fun i hi => ?_, fun i b' hb => ?_, fun r => hm.ev.room (h.room r), hm.ev.rdy _ (shK_good.mono _ _ _ h.rdy (by omega)), by rw [hm.nx]; have := h.nb; omega, fun i o' e => ?_⟩
  · rcases hs.own b hb with e | e
    · exact h.own b e
    · have := h.bel.size; omega
  · unfold updC at hi
    split at hi
    · cases hi
    · rename_i hne
      exact hm.ev.no i hne (h.dom i hi)
  · unfold updC at hb
    split at hb
    · rename_i hid
      rw [hid]
      obtain ⟨g1, g2⟩ := ho b' (Option.some.inj hb)
      exact ⟨y, hm.pg, g1, g2⟩
    · rename_i hne
      obtain ⟨x, e1, e2, e3⟩ := h.con i b' hb
      obtain ⟨x2, f1, _, _, _, _, f6⟩ := hm.ev.pg i x hne e1
      exact ⟨x2, f1, f6 b' e2, e3⟩
  · rw [hm.nx]
    unfold updC at e
    split at e
    · rename_i hid
      rw [hid]
      have := h.inv.nx1
      omega
    · obtain ⟨g1, g2⟩ := h.id1 i o' e
      exact ⟨g1, by omega⟩
/-- A page less. -/
theorem Vw.del (h : Vw S w0 w d t C R k) (hs : Stp (shM S) shP w w' d t t') (hp : t'.pm = updP t.pm id none) (hx : t'.nx = t.nx) (hh : t'.hole = t.hole) (hss : t'.s = t.s) : Vw S w0 w' d t' (updC C id none) R k := by
  refine ⟨hs.at_, hs.inv, fun b hb => ?_, h.bel.trans (hs.off.below (fun b hb => h.own b hb) h.bel.size), by rw [hh]; exact h.hole, fun i hi => ?_, fun i b' hb => ?_, fun r => by rw [hss]; exact h.room r, by rw [hss]; exact h.rdy, by rw [hx]; exact h.nb, fun i o' e => ?_⟩
  · rcases hs.own b hb with e | e
    · exact h.own b e
    · have := h.bel.size; omega
  · rw [hp]
    unfold updC at hi
    unfold updP
    split
    · rfl
    · rename_i hne
      rw [if_neg hne] at hi
      exact h.dom i hi
  · unfold updC at hb
    split at hb
    · cases hb
    · rename_i hne
      obtain ⟨x, e1, e2, e3⟩ := h.con i b' hb
      rw [hp, hss]
      exact ⟨x, (updP_ne _ _ hne).trans e1, e2, e3⟩
  · rw [hx]
    unfold updC at e
    split at e
    · cases e
    · exact h.id1 i o' e
/-- The sink has been asked by the law itself. -/
theorem Vw.sink (h : Vw S w0 w d t C R k) {O' : Nat → Prop} {s' : ShS} (ha : (shM S).At w' O' s') (ho : Off t.O w w') (hO : ∀ k, O' k → t.O k ∨ w.heap.size ≤ k) (hin : shP.In s') (hrd : SubR (shP.rd t.s) (shP.rd s')) (hroom : R → shP.room s' < 0) (hrdy : shK.Rdy s' k1) (hk : k1 ≤ k) :
    Vw S w0 w' d { t with O := O', s := s' } C R k1 ∧ Nx S w w' d t { t with O := O', s := s' } := by
  have hnx : Nx S w w' d t { t with O := O', s := s' } := ⟨ho.mono fun k e => .inr e, fun b hb => by
    rcases hb with e | e
    · exact .inl (.inl e)
    · rcases hO b e with f | f
      · exact .inl (.inr f)
      · exact .inr f⟩
  refine ⟨⟨h.at_.off ho h.at_.nO ha hO, ⟨hin, h.inv.kv, h.inv.pz, h.inv.res, h.inv.has, fun i x hx hp => ?_, h.inv.zer, h.inv.dty, h.inv.ids, h.inv.hol, h.inv.nx1⟩, fun b hb => ?_, h.bel.trans (ho.below (fun b hb => h.own b (.inr hb)) h.bel.size), h.hole, h.dom, fun i b hb => ?_, hroom, hrdy, by have := h.nb; show t.nx + k1 ≤ _; omega, h.id1⟩, hnx⟩
  · obtain ⟨g1, g2⟩ := h.inv.put i x hx hp
    exact ⟨fun B c L e => hrd _ _ (g1 B c L e), fun e => hrd _ _ (g2 e)⟩
  · rcases hnx.own b hb with e | e
    · exact h.own b e
    · have := h.bel.size; omega
  · obtain ⟨x, e1, e2, e3⟩ := h.con i b hb
    exact ⟨x, e1, cont_sub hrd e2, e3⟩
end
end Go.Proofs.Ytmipngefpedfpaa
namespace Go.Proofs.Ytmipngefpedfpaa
open Go.RowKit Go.Maps
set_option linter.unusedVariables false
set_option linter.unusedSimpArgs false

section
variable {S : Nat} {w0 w w' w1 w2 : World} {d : PD} {t t' t1 t2 : PSt ShS} {C C' : Cn} {R : Prop} {k k1 k2 : Nat} {id : Int} {E : Int → Prop} {o : Option Bytes} {b : Bytes}
theorem Vw.at1 (h : Vw S w0 w d t C R k) (hk : 1 ≤ k) : shK.Rdy t.s 1 := shK_good.mono _ _ _ h.rdy hk
theorem Vw.nxb (h : Vw S w0 w d t C R k) : t.nx < 4611686018427387904 := by have := h.nb; omega
theorem Vw.noid (h : Vw S w0 w d t C R k) (hC : C id = none) : t.pm id = none := h.dom id hC
/-- What is the same of the numbers, of the frames' uses. -/
structure Nm (d : PD) (t t' : PSt ShS) : Prop where
  nx : t'.nx = t.nx
  cm : t'.cm = t.cm
theorem vw_make (h : Vw S w0 w d t C R (k + 1)) : Calls Try.prog 11 #[.pointer (some ⟨d.Q, 0, none⟩)] w fun e w' =>
    e = .returned (.int .i64 (t.nx : Nat)) ∧ ∃ t', Vw S w0 w' d t' (updC C t.nx (some (some (zeros d.z)))) R k ∧ Nx S w w' d t t' ∧ t'.nx = t.nx + 1 ∧ t'.cm = t.cm + 1 ∧ t'.s = t.s := by
  refine (make_any (P := shP) shK_good h.at_ h.inv h.hole h.nxb).mono ?_
  rintro e w' ⟨t', y, rfl, hs, hm, h1, h2, h3, h4, h5, h6⟩
  refine ⟨rfl, t', h.more (j := 0) hs hm (Nat.le_refl _) (fun b hb => ?_), Nx.of hs, hm.nx, hm.cm, h6⟩
  cases hb
  exact ⟨by unfold cont; rw [h1, h4]; rfl, zeros_length _⟩
/-- A page whose bytes the sink has, or has not. -/
theorem vw_bring (h : Vw S w0 w d t C R (k + 1)) (a : Int × Int) (ho : ∀ b, o = some b → shP.rd t.s a = some b ∧ b.length = d.z) : Calls Try.prog 24 #[.pointer (some ⟨d.Q, 0, none⟩), addrV a] w fun e w' =>
    e = .returned (.int .i64 (t.nx : Nat)) ∧ ∃ t' y, Vw S w0 w' d t' (updC C t.nx (some o)) R k ∧ Nx S w w' d t t' ∧ t'.nx = t.nx + 1 ∧ t'.cm = t.cm + 1 ∧ t'.s = t.s ∧ t'.pm t.nx = some y ∧ y.put = true ∧ y.at_ = a := by
  refine (bringA_any (P := shP) shK_good h.at_ h.inv h.hole h.nxb a).mono ?_
  rintro e w' ⟨t', y, rfl, hs, hm, h1, h2, h3, h4, h5, h6⟩
  refine ⟨rfl, t', y, h.more (j := 0) hs hm (Nat.le_refl _) (fun b hb => ?_), Nx.of hs, hm.nx, hm.cm, h6, hm.pg, h3, h2⟩
  obtain ⟨g1, g2⟩ := ho b hb
  refine ⟨?_, g2⟩
  unfold cont
  rw [h1]
  simp only
  rw [h4, h2, h6, g1]
  simp [g2]
theorem vw_read (h : Vw S w0 w d t C R (k + 1)) (hR : R) (hC : C id = some (some b)) {off n : Nat} (hin : off + n ≤ d.z) : Calls Try.prog 15 #[.pointer (some ⟨d.Q, 0, none⟩), .int .i64 id, .int .i64 (off : Nat), .int .i64 (n : Nat)] w fun e w' =>
    ∃ t' A c, e = .returned (.tuple #[.slice A n c, .int .i64 0]) ∧ Vw S w0 w' d t' C R k ∧ Nx S w w' d t t' ∧ Ev shP d.z 1 none9 t t' ∧ Nm d t t' ∧ SlB w' (.slice A n c) (secP b off n) ∧ VIn (fun k => ¬ Own d t' k ∧ w.heap.size ≤ k) (.slice A n c) := by
  refine (read_any (P := shP) shK_good shP_miss h.at_ h.inv h.hole (h.idb hC) (by have := h.nb; omega) (h.at1 (by omega)) (off : Int) (n : Int)).mono ?_
  rintro e w' ⟨t', v, er, rfl, hs, he, hn, hc⟩
  obtain ⟨x, hx, hcx, hl⟩ := h.con id b hC
  have hinb : inB d.z (off : Int) (n : Int) = true := inB_iff.2 (by omega)
  rcases hc with ⟨rfl, _, y, L, hy, hL, _, ⟨A, c, hv⟩, g1, g2⟩ | ⟨rfl, hc⟩
  · rw [hx] at hy
    cases hy
    rw [hcx] at hL
    cases hL
    simp only [Int.toNat_natCast] at hv g1
    subst hv
    exact ⟨t', A, c, rfl, h.step (j := 1) hs he hn (Nat.le_refl _), Nx.of hs, he, ⟨hn.nx, hn.cm⟩, g1, g2⟩
  · exfalso
    rcases hc with ⟨_, hc⟩ | ⟨_, hc, _⟩ | ⟨_, y, hy, ⟨_, hc⟩ | ⟨_, hc⟩⟩
    · rw [hx] at hc; cases hc
    · rw [hinb] at hc; cases hc
    · have := h.room hR
      omega
    · rw [hx] at hy
      cases hy
      rw [hcx] at hc
      cases hc
/-- Read outside of the page. -/
theorem vw_read_out (h : Vw S w0 w d t C R (k + 1)) (hC : C id = some o) {off n : Int} (hin : inB d.z off n = false) (hpm : t.pm id ≠ none) : Calls Try.prog 15 #[.pointer (some ⟨d.Q, 0, none⟩), .int .i64 id, .int .i64 off, .int .i64 n] w fun e w' =>
    ∃ t', e = .returned (.tuple #[.slice none 0 0, .int .i64 1]) ∧ Vw S w0 w' d t' C R k ∧ Nx S w w' d t t' ∧ Ev shP d.z 1 none9 t t' ∧ Nm d t t' := by
  refine (read_any (P := shP) shK_good shP_miss h.at_ h.inv h.hole (h.idb hC) (by have := h.nb; omega) (h.at1 (by omega)) off n).mono ?_
  rintro e w' ⟨t', v, er, rfl, hs, he, hn, hc⟩
  rcases hc with ⟨rfl, hc, _⟩ | ⟨rfl, hc⟩
  · rw [hin] at hc; cases hc
  · rcases hc with ⟨_, hc⟩ | ⟨rfl, _, _⟩ | ⟨hc, _⟩
    · exact absurd hc hpm
    · exact ⟨t', rfl, h.step (j := 1) hs he hn (Nat.le_refl _), Nx.of hs, he, ⟨hn.nx, hn.cm⟩⟩
    · rw [hin] at hc; cases hc
theorem vw_read_none (h : Vw S w0 w d t C R (k + 1)) (hC : C id = none) (hid : -9223372036854775808 ≤ id ∧ id ≤ 9223372036854775807) {off n : Int} : Calls Try.prog 15 #[.pointer (some ⟨d.Q, 0, none⟩), .int .i64 id, .int .i64 off, .int .i64 n] w fun e w' =>
    ∃ t', e = .returned (.tuple #[.slice none 0 0, .int .i64 2]) ∧ Vw S w0 w' d t' C R k ∧ Nx S w w' d t t' ∧ Nm d t t' := by
  have hpm := h.dom id hC
  refine (read_any (P := shP) shK_good shP_miss h.at_ h.inv h.hole hid (by have := h.nb; omega) (h.at1 (by omega)) off n).mono ?_
  rintro e w' ⟨t', v, er, rfl, hs, he, hn, hc⟩
  rcases hc with ⟨rfl, _, y, L, hy, _⟩ | ⟨rfl, hc⟩
  · rw [hpm] at hy; cases hy
  · rcases hc with ⟨rfl, hc⟩ | ⟨rfl, _, hc⟩ | ⟨_, y, hy, _⟩
    · exact ⟨t', rfl, h.step (j := 1) hs he hn (Nat.le_refl _), Nx.of hs, ⟨hn.nx, hn.cm⟩⟩
    · exact absurd hpm hc
    · rw [hpm] at hy; cases hy
/-- A page that the sink has no bytes for. -/
theorem vw_read_bad (h : Vw S w0 w d t C R (k + 1)) (hR : R) (hC : C id = some o) {off n : Nat} (hin : off + n ≤ d.z) {x : Pg} (hx : t.pm id = some x) (hc0 : cont (shP.rd t.s) d.z x = none) : Calls Try.prog 15 #[.pointer (some ⟨d.Q, 0, none⟩), .int .i64 id, .int .i64 (off : Nat), .int .i64 (n : Nat)] w fun e w' =>
    ∃ t', e = .returned (.tuple #[.slice none 0 0, .int .i64 20]) ∧ Vw S w0 w' d t' C R k ∧ Nx S w w' d t t' ∧ Ev shP d.z 1 none9 t t' ∧ Nm d t t' := by
  refine (read_any (P := shP) shK_good shP_miss h.at_ h.inv h.hole (h.idb hC) (by have := h.nb; omega) (h.at1 (by omega)) (off : Int) (n : Int)).mono ?_
  rintro e w' ⟨t', v, er, rfl, hs, he, hn, hc⟩
  have hinb : inB d.z (off : Int) (n : Int) = true := inB_iff.2 (by omega)
  rcases hc with ⟨rfl, _, y, L, hy, hL, _⟩ | ⟨rfl, hc⟩
  · rw [hx] at hy
    cases hy
    rw [hc0] at hL
    cases hL
  · rcases hc with ⟨_, hc⟩ | ⟨_, hc, _⟩ | ⟨_, y, hy, ⟨_, hc⟩ | ⟨rfl, hc⟩⟩
    · rw [hx] at hc; cases hc
    · rw [hinb] at hc; cases hc
    · have := h.room hR
      omega
    · exact ⟨t', rfl, h.step (j := 1) hs he hn (Nat.le_refl _), Nx.of hs, he, ⟨hn.nx, hn.cm⟩⟩
section
variable {A : Option Addr} {n cb : Nat} {by_ : Bytes}
theorem vw_write (h : Vw S w0 w d t C R (k + 1)) (hR : R) (hC : C id = some (some b)) {off : Nat} (hS : SBy w A n by_) (hin : off + n ≤ d.z) (hV : VIn (fun k => ¬ Own d t k) (.slice A n cb)) : Calls Try.prog 12 #[.pointer (some ⟨d.Q, 0, none⟩), .int .i64 id, .int .i64 (off : Nat), .slice A n cb] w fun e w' =>
    e = .returned (.int .i64 0) ∧ ∃ t', Vw S w0 w' d t' (updC C id (some (some (setB b off by_)))) R k ∧ Nx S w w' d t t' ∧ Ev shP d.z 1 (· = id) t t' ∧ Nm d t t' := by
  have hz := h.at_.zs.2
  refine (write_any (P := shP) shK_good shP_miss h.at_ h.inv h.hole (h.idb hC) (by have := h.nb; omega) (h.at1 (by omega)) (off : Int) hS (by omega) hV).mono ?_
  rintro e w' ⟨t', er, rfl, hs, hn, hc⟩
  obtain ⟨x, hx, hcx, hl⟩ := h.con id b hC
  have hinb : inB d.z (off : Int) (by_.length : Int) = true := inB_iff.2 (by have := hS.1; omega)
  rcases hc with ⟨rfl, he, _, y, y', L, hy, hL, hLl, hy', _, _, hc'⟩ | ⟨he, hc⟩
  · rw [hx] at hy
    cases hy
    rw [hcx] at hL
    cases hL
    simp only [Int.toNat_natCast] at hc'
    exact ⟨rfl, t', h.put (j := 1) hs he hn (Nat.le_refl _) hC hy' hc' (by rw [setB_len (by have := hS.1; omega)]; exact hl), Nx.of hs, he, ⟨hn.nx, hn.cm⟩⟩
  · exfalso
    rcases hc with ⟨_, hc⟩ | ⟨_, hc, _⟩ | ⟨_, y, hy, ⟨_, hc⟩ | ⟨_, hc⟩⟩
    · rw [hx] at hc; cases hc
    · rw [hinb] at hc; cases hc
    · have := h.room hR
      omega
    · rw [hx] at hy
      cases hy
      rw [hcx] at hc
      cases hc
/-- With a sink that may be full. -/
theorem vw_write_full (h : Vw S w0 w d t C R (k + 1)) (hC : C id = some (some b)) {off : Nat} (hS : SBy w A n by_) (hin : off + n ≤ d.z) (hV : VIn (fun k => ¬ Own d t k) (.slice A n cb)) : Calls Try.prog 12 #[.pointer (some ⟨d.Q, 0, none⟩), .int .i64 id, .int .i64 (off : Nat), .slice A n cb] w fun e w' =>
    ∃ t', ((e = .returned (.int .i64 0) ∧ Vw S w0 w' d t' (updC C id (some (some (setB b off by_)))) R k) ∨ (e = .returned (.int .i64 7) ∧ Vw S w0 w' d t' C R k)) ∧ Nx S w w' d t t' ∧ Nm d t t' := by
  have hz := h.at_.zs.2
  refine (write_any (P := shP) shK_good shP_miss h.at_ h.inv h.hole (h.idb hC) (by have := h.nb; omega) (h.at1 (by omega)) (off : Int) hS (by omega) hV).mono ?_
  rintro e w' ⟨t', er, rfl, hs, hn, hc⟩
  obtain ⟨x, hx, hcx, hl⟩ := h.con id b hC
  have hinb : inB d.z (off : Int) (by_.length : Int) = true := inB_iff.2 (by have := hS.1; omega)
  rcases hc with ⟨rfl, he, _, y, y', L, hy, hL, hLl, hy', _, _, hc'⟩ | ⟨he, hc⟩
  · rw [hx] at hy
    cases hy
    rw [hcx] at hL
    cases hL
    simp only [Int.toNat_natCast] at hc'
    exact ⟨t', .inl ⟨rfl, h.put (j := 1) hs he hn (Nat.le_refl _) hC hy' hc' (by rw [setB_len (by have := hS.1; omega)]; exact hl)⟩, Nx.of hs, ⟨hn.nx, hn.cm⟩⟩
  · rcases hc with ⟨_, hc⟩ | ⟨_, hc, _⟩ | ⟨_, y, hy, ⟨rfl, hc⟩ | ⟨_, hc⟩⟩
    · rw [hx] at hc; cases hc
    · rw [hinb] at hc; cases hc
    · exact ⟨t', .inr ⟨rfl, h.step (j := 1) hs he hn (Nat.le_refl _)⟩, Nx.of hs, ⟨hn.nx, hn.cm⟩⟩
    · rw [hx] at hy
      cases hy
      rw [hcx] at hc
      cases hc
theorem vw_write_out (h : Vw S w0 w d t C R (k + 1)) (hC : C id = some o) {off : Int} (hS : SBy w A n by_) (hn40 : n ≤ 2 ^ 40) (hin : inB d.z off (n : Int) = false) (hpm : t.pm id ≠ none) (hV : VIn (fun k => ¬ Own d t k) (.slice A n cb)) : Calls Try.prog 12 #[.pointer (some ⟨d.Q, 0, none⟩), .int .i64 id, .int .i64 off, .slice A n cb] w fun e w' =>
    e = .returned (.int .i64 1) ∧ ∃ t', Vw S w0 w' d t' C R k ∧ Nx S w w' d t t' ∧ Nm d t t' := by
  refine (write_any (P := shP) shK_good shP_miss h.at_ h.inv h.hole (h.idb hC) (by have := h.nb; omega) (h.at1 (by omega)) off hS hn40 hV).mono ?_
  rintro e w' ⟨t', er, rfl, hs, hn, hc⟩
  rw [hS.1] at hc
  rcases hc with ⟨rfl, he, hc, _⟩ | ⟨he, hc⟩
  · rw [hin] at hc; cases hc
  · rcases hc with ⟨_, hc⟩ | ⟨rfl, _, _⟩ | ⟨hc, _⟩
    · exact absurd hc hpm
    · exact ⟨rfl, t', h.step (j := 1) hs he hn (Nat.le_refl _), Nx.of hs, ⟨hn.nx, hn.cm⟩⟩
    · rw [hin] at hc; cases hc
theorem vw_write_none (h : Vw S w0 w d t C R (k + 1)) (hC : C id = none) (hid : -9223372036854775808 ≤ id ∧ id ≤ 9223372036854775807) {off : Int} (hS : SBy w A n by_) (hn40 : n ≤ 2 ^ 40) (hV : VIn (fun k => ¬ Own d t k) (.slice A n cb)) : Calls Try.prog 12 #[.pointer (some ⟨d.Q, 0, none⟩), .int .i64 id, .int .i64 off, .slice A n cb] w fun e w' =>
    e = .returned (.int .i64 2) ∧ ∃ t', Vw S w0 w' d t' C R k ∧ Nx S w w' d t t' ∧ Nm d t t' := by
  have hpm := h.dom id hC
  refine (write_any (P := shP) shK_good shP_miss h.at_ h.inv h.hole hid (by have := h.nb; omega) (h.at1 (by omega)) off hS hn40 hV).mono ?_
  rintro e w' ⟨t', er, rfl, hs, hn, hc⟩
  rcases hc with ⟨rfl, he, _, y, y', L, hy, _⟩ | ⟨he, hc⟩
  · rw [hpm] at hy; cases hy
  · rcases hc with ⟨rfl, hc⟩ | ⟨rfl, _, hc⟩ | ⟨_, y, hy, _⟩
    · exact ⟨rfl, t', h.step (j := 1) hs he hn (Nat.le_refl _), Nx.of hs, ⟨hn.nx, hn.cm⟩⟩
    · exact absurd hpm hc
    · rw [hpm] at hy; cases hy
theorem vw_write_bad (h : Vw S w0 w d t C R (k + 1)) (hR : R) (hC : C id = some o) {off : Nat} (hS : SBy w A n by_) (hin : off + n ≤ d.z) (hV : VIn (fun k => ¬ Own d t k) (.slice A n cb)) {x : Pg} (hx : t.pm id = some x) (hc0 : cont (shP.rd t.s) d.z x = none) : Calls Try.prog 12 #[.pointer (some ⟨d.Q, 0, none⟩), .int .i64 id, .int .i64 (off : Nat), .slice A n cb] w fun e w' =>
    e = .returned (.int .i64 20) ∧ ∃ t', Vw S w0 w' d t' C R k ∧ Nx S w w' d t t' ∧ Ev shP d.z 1 none9 t t' ∧ Nm d t t' := by
  have hz := h.at_.zs.2
  refine (write_any (P := shP) shK_good shP_miss h.at_ h.inv h.hole (h.idb hC) (by have := h.nb; omega) (h.at1 (by omega)) (off : Int) hS (by omega) hV).mono ?_
  rintro e w' ⟨t', er, rfl, hs, hn, hc⟩
  have hinb : inB d.z (off : Int) (by_.length : Int) = true := inB_iff.2 (by have := hS.1; omega)
  rcases hc with ⟨rfl, he, _, y, y', L, hy, hL, _⟩ | ⟨he, hc⟩
  · rw [hx] at hy
    cases hy
    rw [hc0] at hL
    cases hL
  · rcases hc with ⟨_, hc⟩ | ⟨_, hc, _⟩ | ⟨_, y, hy, ⟨_, hc⟩ | ⟨rfl, hc⟩⟩
    · rw [hx] at hc; cases hc
    · rw [hinb] at hc; cases hc
    · have := h.room hR
      omega
    · exact ⟨rfl, t', h.step (j := 1) hs he hn (Nat.le_refl _), Nx.of hs, he, ⟨hn.nx, hn.cm⟩⟩
end
theorem vw_copy (h : Vw S w0 w d t C R (k + 2)) (hR : R) (hC : C id = some (some b)) : Calls Try.prog 14 #[.pointer (some ⟨d.Q, 0, none⟩), .int .i64 id] w fun e w' =>
    e = .returned (.tuple #[.int .i64 (t.nx : Nat), .int .i64 0]) ∧ ∃ t', Vw S w0 w' d t' (updC C t.nx (some (some b))) R k ∧ Nx S w w' d t t' ∧ t'.nx = t.nx + 1 ∧ t'.cm = t.cm + 1 := by
  refine (copy_any (P := shP) shK_good shP_miss h.at_ h.inv h.hole (h.idb hC) h.nxb (h.at1 (by omega))).mono ?_
  rintro e w' ⟨t', r, er, rfl, hs, hc⟩
  obtain ⟨x, hx, hcx, hl⟩ := h.con id b hC
  rcases hc with ⟨rfl, rfl, y, y', hy, hm, _, hcc⟩ | ⟨hn, he, _, hc⟩
  · rw [hx] at hy
    cases hy
    exact ⟨rfl, t', h.more (j := 1) hs hm (by omega) (fun b' hb => by cases hb; exact ⟨hcc b hcx, hl⟩), Nx.of hs, hm.nx, hm.cm⟩
  · exfalso
    rcases hc with ⟨_, hc⟩ | ⟨_, hc, _⟩
    · rw [hx] at hc; cases hc
    · have := h.room hR
      omega
theorem vw_evict (h : Vw S w0 w d t C R (k + (d.n + 1))) (n : Int) : Calls Try.prog 13 #[.pointer (some ⟨d.Q, 0, none⟩), .int .i64 n] w fun e w' =>
    ∃ (t' : PSt ShS) (j : Nat), e = .returned (.int .i64 (j : Nat)) ∧ Vw S w0 w' d t' C R k ∧ Nx S w w' d t t' ∧ Ev shP d.z (d.n + 1) none9 t t' ∧ Nm d t t' ∧ cntF qUsed t'.F d.n + j = cntF qUsed t.F d.n ∧ ((j : Int) ≤ n ∨ j = 0) := by
  refine (evict_any (P := shP) shK_good shP_miss h.at_ h.inv h.hole (by have := h.nb; omega) (shK_good.mono _ _ _ h.rdy (by omega)) n).mono ?_
  rintro e w' ⟨t', j, rfl, hs, he, hn, hc, hl⟩
  exact ⟨t', j, rfl, h.step (j := d.n + 1) hs he hn (Nat.le_refl _), Nx.of hs, he, ⟨hn.nx, hn.cm⟩, hc, hl⟩
theorem vw_drop (h : Vw S w0 w d t C R k) (hC : C id = some o) (hpm : t.pm id ≠ none) : Calls Try.prog 25 #[.pointer (some ⟨d.Q, 0, none⟩), .int .i64 id] w fun e w' =>
    e = .returned (.int .i64 0) ∧ ∃ t', Vw S w0 w' d t' (updC C id none) R k ∧ Nx S w w' d t t' ∧ t'.nx = t.nx ∧ t'.cm = t.cm - 1 := by
  refine (drop_any (P := shP) h.at_ h.inv h.hole (h.idb hC)).mono ?_
  rintro e w' ⟨t', er, rfl, hs, ⟨_, hc, _⟩ | ⟨rfl, _, g1, g2, g3, g4, g5⟩⟩
  · exact absurd hc hpm
  · exact ⟨rfl, t', h.del hs g1 g3 g4 g5, Nx.of hs, g3, g2⟩
theorem vw_drop_none (h : Vw S w0 w d t C R k) (hC : C id = none) (hid : -9223372036854775808 ≤ id ∧ id ≤ 9223372036854775807) : Calls Try.prog 25 #[.pointer (some ⟨d.Q, 0, none⟩), .int .i64 id] w fun e w' =>
    e = .returned (.int .i64 2) ∧ Vw S w0 w' d t C R k ∧ Nx S w w' d t t := by
  have hpm := h.dom id hC
  refine (drop_any (P := shP) h.at_ h.inv h.hole hid).mono ?_
  rintro e w' ⟨t', er, rfl, hs, ⟨rfl, hc, rfl⟩ | ⟨rfl, hc, _⟩⟩
  · exact ⟨rfl, h.step (j := 0) hs (Ev.refl shK_good _) (Num.refl _) (Nat.le_refl _), Nx.of hs⟩
  · exact absurd hpm hc
theorem vw_save (h : Vw S w0 w d t C R (k + 1)) (hR : R) (hC : C id = some (some b)) : Calls Try.prog 16 #[.pointer (some ⟨d.Q, 0, none⟩), .int .i64 id] w fun e w' =>
    ∃ (t' : PSt ShS) (a : Int × Int), e = .returned (.tuple #[addrV a, .int .i64 0]) ∧ Vw S w0 w' d t' C R k ∧ Nx S w w' d t t' ∧ Ev shP d.z 1 none9 t t' ∧ Nm d t t' ∧ shP.rd t'.s a = some b ∧ (∃ x, t'.pm id = some x ∧ x.put = true ∧ x.at_ = a) ∧ ((whA (t.pm id)).2 = true → t'.s.L.length = t.s.L.length) := by
  refine (savep_any (P := shP) shK_good shP_miss h.at_ h.inv h.hole (h.idb hC) (h.at1 (by omega))).mono ?_
  rintro e w' ⟨t', a, er, rfl, hs, he, hn, hc⟩
  obtain ⟨x, hx, hcx, hl⟩ := h.con id b hC
  rcases hc with ⟨_, hc⟩ | ⟨_, hc, _⟩ | ⟨rfl, y, hy, hy', h1, h2⟩
  · rw [hx] at hc; cases hc
  · have := h.room hR
    omega
  · rw [hx] at hy
    cases hy
    refine ⟨t', a, rfl, h.step (j := 1) hs he hn (Nat.le_refl _), Nx.of hs, he, ⟨hn.nx, hn.cm⟩, h1 b hcx, ⟨_, hy', rfl, rfl⟩, fun hw => h2 ?_⟩
    rw [hx] at hw
    unfold whA at hw
    simp only at hw
    split at hw
    · rename_i hp; exact hp
    · cases hw
theorem vw_where (h : Vw S w0 w d t C R k) (hC : C id = some o) : Calls Try.prog 40 #[.pointer (some ⟨d.Q, 0, none⟩), .int .i64 id] w fun e w' =>
    e = .returned (.tuple #[addrV (whA (t.pm id)).1, .bool (whA (t.pm id)).2]) ∧ Vw S w0 w' d t C R k ∧ Nx S w w' d t t := by
  refine (where_any h.at_ h.hole (h.idb hC)).mono ?_
  rintro e w' ⟨rfl, hb⟩
  exact ⟨rfl, h.up hb, Nx.refl.up hb⟩
theorem vw_move (h : Vw S w0 w d t C R k) (hC : C id = some (some b)) {x : Pg} (hx : t.pm id = some x) (hp : x.put = true) {a : Int × Int} (ha : shP.rd t.s a = some b) : Calls Try.prog 42 #[.pointer (some ⟨d.Q, 0, none⟩), .int .i64 id, addrV a] w fun e w' =>
    e = .returned (.int .i64 0) ∧ ∃ t' x', Vw S w0 w' d t' C R k ∧ Nx S w w' d t t' ∧ Nm d t t' ∧ t'.s = t.s ∧ t'.pm id = some x' ∧ x'.put = true ∧ x'.at_ = a := by
  obtain ⟨y, hy, hcy, hl⟩ := h.con id b hC
  rw [hx] at hy
  cases hy
  refine (move_any (P := shP) shK_good h.at_ h.inv h.hole (h.idb hC) a (fun y L hy hL => by rw [hx] at hy; cases hy; rw [hcy] at hL; cases hL; exact ha)).mono ?_
  rintro e w' ⟨t', er, rfl, hs, hn, he, hss, ⟨_, hc, _⟩ | ⟨_, ⟨y, hy, hc⟩, _⟩ | ⟨rfl, y, hy, _, hy', hcc⟩⟩
  · rw [hx] at hc; cases hc
  · rw [hx] at hy
    cases hy
    rw [hp] at hc
    cases hc
  · rw [hx] at hy
    cases hy
    have h2 := h.put (j := 0) hs he hn (Nat.le_refl _) hC hy' (hcc b hcy) hl
    have e1 : updC C id (some (some b)) = C := by
      funext i
      unfold updC
      split
      · rename_i hi; rw [hi, hC]
      · rfl
    rw [e1] at h2
    exact ⟨rfl, t', _, h2, Nx.of hs, ⟨hn.nx, hn.cm⟩, hss, hy', hp, rfl⟩
end
end Go.Proofs.Ytmipngefpedfpaa
namespace Go.Proofs.Ytmipngefpedfpaa
open Go.RowKit Go.Maps
set_option linter.unusedVariables false
set_option linter.unusedSimpArgs false

section
variable {S : Nat} {w0 w w' w1 w2 : World} {d : PD} {t t' t1 t2 : PSt ShS} {C C' : Cn} {R : Prop} {k k1 k2 : Nat} {id : Int} {E : Int → Prop} {o : Option Bytes} {b : Bytes}
theorem vw_new {z n : Nat} {e : Ending} (hs : ShNew w e w1) (hp : Pg0 (shM w.heap.size) shP w1 w2 z n (· = w.heap.size) sh0 d t) : Vw w.heap.size w w2 d t (fun _ => none) True 1000000 := by
  refine ⟨hp.at_, hp.inv, fun b hb => ?_, hs.2.1.trans (hp.bel.mono hs.2.1.size), hp.hole, (fun i _ => by rw [hp.pm]), (fun i b h => by cases h), (fun _ => by rw [hp.s]; show (-1 : Int) < 0; omega), by rw [hp.s]; exact sh0_rdy (by omega), by rw [hp.nx]; omega, (fun i o h => by cases h)⟩
  rcases hb with e | e
  · have := hp.own b e
    have := hs.2.1.size
    omega
  · rw [hp.O] at e
    exact Nat.le_of_eq e.symm
theorem shNew_in {e : Ending} (hs : ShNew w e w1) : (shM w.heap.size).At w1 (· = w.heap.size) sh0 ∧ shP.In sh0 := ⟨hs.2.2.2, by show (-1 : Int) < 0; omega⟩
/-- Pages' used frames. -/
theorem held_le (h : Vw S w0 w d t C R k) : cntF qUsed t.F d.n ≤ d.n := cntF_le _ _ _
theorem fresh_no (h : Vw S w0 w d t C R k) {b : Nat} (hb : w.heap.size ≤ b) : ¬ Own d t b := fun e => by have := h.lt e; omega
theorem sby_row (w : World) (xs : Array Value) (L : Bytes) (T : TypeId) (fr : Nat × Nat) (h : xs.toList = L.map bv) : SBy (w.alloc (.cells xs T fr)) (some ⟨w.heap.size, 0, none⟩) L.length L := by
  refine ⟨rfl, fun hp => ⟨w.heap.size, 0, rfl, by simp, fun k hk => ?_⟩⟩
  rw [Nat.zero_add, cell_of_row _ _ _ _ _ _ (heap_alloc_new w _), ← Array.getElem?_toList, h, List.getElem?_map, List.getElem?_eq_getElem hk, at8_get hk]
  rfl
theorem kc (w : World) (C : Array Value) (n c : Nat) : (convert 22 22 (.slice (some ⟨w.heap.size, 0, none⟩) n c)).run Try.prog (w.alloc (.cells C 5)) = .ok (.slice (some ⟨w.heap.size, 0, none⟩) n c) (w.alloc (.cells C 5 (C.size, C.size + 1))) :=
  Lib.run_convert_bytes_const (P := Try.prog) w 22 5 C n c Try.underlying22 Try.underlying5
theorem vin_new (h : Vw S w0 w d t C R k) {b o n c : Nat} (hb : w.heap.size ≤ b) : VIn (fun k => ¬ Own d t k) (.slice (some ⟨b, o, none⟩) n c) := fun b' o' n' c' e _ => by cases e; exact fresh_no h hb
end
set_option maxRecDepth 100000 in
set_option maxHeartbeats 4000000 in
theorem known_any (w : World) : Calls Try.prog 8 #[] w fun e w' => e = .returned (.bool true) ∧ Below w.heap.size w w' := by
  go_enter Try.func8, Try.ntmps8
  go_wp2_with fail
  refine (newShelf_any w).mono ?_
  rintro e w1 hs
  have HS := Lib.hid hs
  have he := hs.1
  subst he
  have HN := Lib.hid (pgNew_any (M := shM w.heap.size) (P := shP) 16 1 (shNew_in hs).1 (shNew_in hs).2)
  clear hs
  go_wp2_with fail
  refine HN.out.mono ?_
  rintro e w2 (⟨_, _, hbad⟩ | ⟨d, t, rfl, _, hp⟩)
  · omega
  have hv := vw_new HS.out hp
  have HV := Lib.hid hv
  have HP := Lib.hid (show d.z = 16 ∧ d.n = 1 ∧ t.nx = 1 ∧ t.cm = 0 from ⟨hp.z, hp.n, hp.nx, hp.cm⟩)
  clear hp HN
  generalize w.heap.size = S at *
  have HM := Lib.hid (vw_make (k := 999999) hv)
  rw [show ((t.nx : Nat) : Int) = 1 by have := HP.out.2.2.1; omega] at HM
  clear hv
  go_wp2_with fail
  refine HM.out.mono ?_
  rintro e w3 ⟨rfl, t3, hv3, hn3, hx3, hc3, _⟩
  have HV3 := Lib.hid hv3
  have HN3 := Lib.hid (show t3.nx = 2 ∧ t3.cm = 1 by have := HP.out; omega)
  clear hv3 hn3 hx3 hc3 HM
  have k3 := kc w3 #[.int .u8 120, .int .u8 121] 2 2
  have hb3 : Below w3.heap.size w3 (w3.alloc (.cells #[.int .u8 120, .int .u8 121] 5 (2, 3))) := (Below.refl _ _).alloc (Nat.le_refl _) _
  have HW := Lib.hid (vw_write (id := 1) (b := zeros 16) (by_ := [120, 121]) (off := 3) (k := 999998) (cb := 2) (HV3.out.up hb3) trivial (by rw [show (1 : Int) = ((t.nx : Nat) : Int) by have := HP.out.2.2.1; omega, updC_same, HP.out.1]) (sby_row w3 #[.int .u8 120, .int .u8 121] [120, 121] _ _ rfl) (by rw [HP.out.1]; decide) (vin_new HV3.out (Nat.le_refl _)))
  clear hb3
  go_wp2_with fail
  refine HW.out.mono ?_
  rintro e w4 ⟨rfl, t4, hv4, _, _, hn4⟩
  have HV4 := Lib.hid hv4
  have HN4 := Lib.hid (show t4.nx = 2 ∧ t4.cm = 1 by have := HN3.out; have := hn4.nx; have := hn4.cm; omega)
  have HM2 := Lib.hid (vw_make (k := 999997) hv4)
  rw [show ((t4.nx : Nat) : Int) = 2 by have := HN4.out.1; omega] at HM2
  clear hv4 hn4 HW k3
  go_wp2_with fail
  refine HM2.out.mono ?_
  rintro e w5 ⟨rfl, t5, hv5, _, hx5, hc5, _⟩
  have HV5 := Lib.hid hv5
  have HN5 := Lib.hid (show t5.nx = 3 ∧ t5.cm = 2 by have := HN4.out; omega)
  have k5 := kc w5 #[.int .u8 122] 1 1
  have hb5 : Below w5.heap.size w5 (w5.alloc (.cells #[.int .u8 122] 5 (1, 2))) := (Below.refl _ _).alloc (Nat.le_refl _) _
  have HW := Lib.hid (vw_write (id := 2) (b := zeros 16) (by_ := [122]) (off := 0) (k := 999996) (cb := 1) (HV5.out.up hb5) trivial (by rw [updC_same, HP.out.1]) (sby_row w5 #[.int .u8 122] [122] _ _ rfl) (by rw [HP.out.1]; decide) (vin_new HV5.out (Nat.le_refl _)))
  clear hv5 hx5 hc5 HM2 hb5
  go_wp2_with fail
  refine HW.out.mono ?_
  rintro e w6 ⟨rfl, t6, hv6, _, _, hn6⟩
  have HV6 := Lib.hid hv6
  have HN6 := Lib.hid (show t6.nx = 3 ∧ t6.cm = 2 by have := HN5.out; have := hn6.nx; have := hn6.cm; omega)
  have HR := Lib.hid (vw_read (id := 1) (b := setB (zeros 16) 3 [120, 121]) (off := 2) (n := 4) (k := 999995) hv6 trivial (by rw [updC_ne _ _ (by omega), updC_ne _ _ (by omega)]; rw [show (1 : Int) = ((t.nx : Nat) : Int) by have := HP.out.2.2.1; omega]; exact updC_same _ _ _) (by rw [HP.out.1]; decide))
  clear hv6 hn6 HW k5
  go_wp2_with fail
  refine HR.out.mono ?_
  rintro e w7 ⟨t7, A, c, rfl, hv7, _, _, hn7, hs7, _⟩
  have HV7 := Lib.hid hv7
  have HN7 := Lib.hid (show t7.nx = 3 ∧ t7.cm = 2 by have := HN6.out; have := hn7.nx; have := hn7.cm; omega)
  obtain ⟨A', n', c', e1, _, hsb⟩ := hs7
  cases e1
  have hstr : (convert 22 9 (.slice A 4 c)).run Try.prog w7 = .ok (.string ⟨#[0, 120, 121, 0]⟩) w7 := hsb.str c
  have hH := held_any hv7.at_
  have hle := held_le hv7
  rw [HP.out.2.1] at hle
  rw [HP.out.2.1] at hH
  have hle2 : ((cntF qUsed t7.F 1 : Nat) : Int) ≤ 1 := by omega
  have hPg : Hid (∀ W, Below w7.heap.size w7 W → Calls Try.prog 20 #[.pointer (some ⟨d.Q, 0, none⟩)] W fun e w' => e = .returned (.int .i64 2) ∧ W = w') := Lib.hid fun W hb => (pages_any (hv7.up hb).at_).mono fun e w' h => ⟨by rw [h.1, HN7.out.2]; rfl, h.2⟩
  have HB7 := Lib.hid hv7.bel
  have HH := Lib.hid hH
  clear hv7 hn7 hsb hH HR
  go_wp2_with fail
  refine HH.out.mono ?_
  rintro e w8 ⟨rfl, hb8⟩
  have HB8 := Lib.hid hb8
  clear hb8
  go_wp2_with fail
  refine (hPg.out _ HB8.out).mono ?_
  rintro e w9 ⟨rfl, rfl⟩
  go_wp2
  go_ret
  exact ⟨rfl, HB7.out.trans (HB8.out.mono HB7.out.size)⟩
end Go.Proofs.Ytmipngefpedfpaa
