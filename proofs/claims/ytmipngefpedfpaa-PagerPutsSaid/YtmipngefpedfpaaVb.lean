/- A pager over a shelf, as a law sees it: what each call answers. -/
import Derived.Test.YtmipngefpedfpaaVa
namespace Go.Proofs.Ytmipngefpedfpaa
open Go.RowKit Go.Maps
set_option linter.unusedVariables false
set_option linter.unusedSimpArgs false

section
variable {S : Nat} {w0 w w' w1 w2 : World} {d : PD} {t t' t1 t2 : PSt ShS} {C C' : Cn} {R : Prop} {k k1 k2 : Nat} {id : Int} {E : Int → Prop} {o : Option Bytes} {b : Bytes}
theorem Vw.at1 (h : Vw S w0 w d t C R k) (hk : 1 ≤ k) : shK.Rdy t.s 1 := shK_good.mono _ _ _ h.rdy hk
theorem Vw.nxb (h : Vw S w0 w d t C R k) : t.nx < 4611686018427387904 := by have := h.nb; omega
theorem Vw.noid (h : Vw S w0 w d t C R k) (hC : C id = none) : t.pm id = none := h.dom id hC
/-- What is the same of the numbers, of the frames' uses. -/
structure Nm (d : PD) (t t' : PSt ShS) : Prop where
  nx : t'.nx = t.nx
  cm : t'.cm = t.cm
theorem vw_make (h : Vw S w0 w d t C R (k + 1)) : Calls Try.prog 11 #[.pointer (some ⟨d.Q, 0, none⟩)] w fun e w' =>
    e = .returned (.int .i64 (t.nx : Nat)) ∧ ∃ t', Vw S w0 w' d t' (updC C t.nx (some (some (zeros d.z)))) R k ∧ Nx S w w' d t t' ∧ t'.nx = t.nx + 1 ∧ t'.cm = t.cm + 1 ∧ t'.s = t.s := by
  refine (make_any (P := shP) shK_good h.at_ h.inv h.hole h.nxb).mono ?_
  rintro e w' ⟨t', y, rfl, hs, hm, h1, h2, h3, h4, h5, h6⟩
  refine ⟨rfl, t', h.more (j := 0) hs hm (Nat.le_refl _) (fun b hb => ?_), Nx.of hs, hm.nx, hm.cm, h6⟩
  cases hb
  exact ⟨by unfold cont; rw [h1, h4]; rfl, zeros_length _⟩
/-- A page whose bytes the sink has, or has not. -/
theorem vw_bring (h : Vw S w0 w d t C R (k + 1)) (a : Int × Int) (ho : ∀ b, o = some b → shP.rd t.s a = some b ∧ b.length = d.z) : Calls Try.prog 24 #[.pointer (some ⟨d.Q, 0, none⟩), addrV a] w fun e w' =>
    e = .returned (.int .i64 (t.nx : Nat)) ∧ ∃ t' y, Vw S w0 w' d t' (updC C t.nx (some o)) R k ∧ Nx S w w' d t t' ∧ t'.nx = t.nx + 1 ∧ t'.cm = t.cm + 1 ∧ t'.s = t.s ∧ t'.pm t.nx = some y ∧ y.put = true ∧ y.at_ = a := by
  refine (bringA_any (P := shP) shK_good h.at_ h.inv h.hole h.nxb a).mono ?_
  rintro e w' ⟨t', y, rfl, hs, hm, h1, h2, h3, h4, h5, h6⟩
  refine ⟨rfl, t', y, h.more (j := 0) hs hm (Nat.le_refl _) (fun b hb => ?_), Nx.of hs, hm.nx, hm.cm, h6, hm.pg, h3, h2⟩
  obtain ⟨g1, g2⟩ := ho b hb
  refine ⟨?_, g2⟩
  unfold cont
  rw [h1]
  simp only
  rw [h4, h2, h6, g1]
  simp [g2]
theorem vw_read (h : Vw S w0 w d t C R (k + 1)) (hR : R) (hC : C id = some (some b)) {off n : Nat} (hin : off + n ≤ d.z) : Calls Try.prog 15 #[.pointer (some ⟨d.Q, 0, none⟩), .int .i64 id, .int .i64 (off : Nat), .int .i64 (n : Nat)] w fun e w' =>
    ∃ t' A c, e = .returned (.tuple #[.slice A n c, .int .i64 0]) ∧ Vw S w0 w' d t' C R k ∧ Nx S w w' d t t' ∧ Ev shP d.z 1 none9 t t' ∧ Nm d t t' ∧ SlB w' (.slice A n c) (secP b off n) ∧ VIn (fun k => ¬ Own d t' k ∧ w.heap.size ≤ k) (.slice A n c) := by
  refine (read_any (P := shP) shK_good shP_miss h.at_ h.inv h.hole (h.idb hC) (by have := h.nb; omega) (h.at1 (by omega)) (off : Int) (n : Int)).mono ?_
  rintro e w' ⟨t', v, er, rfl, hs, he, hn, hc⟩
  obtain ⟨x, hx, hcx, hl⟩ := h.con id b hC
  have hinb : inB d.z (off : Int) (n : Int) = true := inB_iff.2 (by omega)
  rcases hc with ⟨rfl, _, y, L, hy, hL, _, ⟨A, c, hv⟩, g1, g2⟩ | ⟨rfl, hc⟩
  · rw [hx] at hy
    cases hy
    rw [hcx] at hL
    cases hL
    simp only [Int.toNat_natCast] at hv g1
    subst hv
    exact ⟨t', A, c, rfl, h.step (j := 1) hs he hn (Nat.le_refl _), Nx.of hs, he, ⟨hn.nx, hn.cm⟩, g1, g2⟩
  · exfalso
    rcases hc with ⟨_, hc⟩ | ⟨_, hc, _⟩ | ⟨_, y, hy, ⟨_, hc⟩ | ⟨_, hc⟩⟩
    · rw [hx] at hc; cases hc
    · rw [hinb] at hc; cases hc
    · have := h.room hR
      omega
    · rw [hx] at hy
      cases hy
      rw [hcx] at hc
      cases hc
/-- Read outside of the page. -/
theorem vw_read_out (h : Vw S w0 w d t C R (k + 1)) (hC : C id = some o) {off n : Int} (hin : inB d.z off n = false) (hpm : t.pm id ≠ none) : Calls Try.prog 15 #[.pointer (some ⟨d.Q, 0, none⟩), .int .i64 id, .int .i64 off, .int .i64 n] w fun e w' =>
    ∃ t', e = .returned (.tuple #[.slice none 0 0, .int .i64 1]) ∧ Vw S w0 w' d t' C R k ∧ Nx S w w' d t t' ∧ Ev shP d.z 1 none9 t t' ∧ Nm d t t' := by
  refine (read_any (P := shP) shK_good shP_miss h.at_ h.inv h.hole (h.idb hC) (by have := h.nb; omega) (h.at1 (by omega)) off n).mono ?_
  rintro e w' ⟨t', v, er, rfl, hs, he, hn, hc⟩
  rcases hc with ⟨rfl, hc, _⟩ | ⟨rfl, hc⟩
  · rw [hin] at hc; cases hc
  · rcases hc with ⟨_, hc⟩ | ⟨rfl, _, _⟩ | ⟨hc, _⟩
    · exact absurd hc hpm
    · exact ⟨t', rfl, h.step (j := 1) hs he hn (Nat.le_refl _), Nx.of hs, he, ⟨hn.nx, hn.cm⟩⟩
    · rw [hin] at hc; cases hc
theorem vw_read_none (h : Vw S w0 w d t C R (k + 1)) (hC : C id = none) (hid : -9223372036854775808 ≤ id ∧ id ≤ 9223372036854775807) {off n : Int} : Calls Try.prog 15 #[.pointer (some ⟨d.Q, 0, none⟩), .int .i64 id, .int .i64 off, .int .i64 n] w fun e w' =>
    ∃ t', e = .returned (.tuple #[.slice none 0 0, .int .i64 2]) ∧ Vw S w0 w' d t' C R k ∧ Nx S w w' d t t' ∧ Nm d t t' := by
  have hpm := h.dom id hC
  refine (read_any (P := shP) shK_good shP_miss h.at_ h.inv h.hole hid (by have := h.nb; omega) (h.at1 (by omega)) off n).mono ?_
  rintro e w' ⟨t', v, er, rfl, hs, he, hn, hc⟩
  rcases hc with ⟨rfl, _, y, L, hy, _⟩ | ⟨rfl, hc⟩
  · rw [hpm] at hy; cases hy
  · rcases hc with ⟨rfl, hc⟩ | ⟨rfl, _, hc⟩ | ⟨_, y, hy, _⟩
    · exact ⟨t', rfl, h.step (j := 1) hs he hn (Nat.le_refl _), Nx.of hs, ⟨hn.nx, hn.cm⟩⟩
    · exact absurd hpm hc
    · rw [hpm] at hy; cases hy
/-- A page that the sink has no bytes for. -/
theorem vw_read_bad (h : Vw S w0 w d t C R (k + 1)) (hR : R) (hC : C id = some o) {off n : Nat} (hin : off + n ≤ d.z) {x : Pg} (hx : t.pm id = some x) (hc0 : cont (shP.rd t.s) d.z x = none) : Calls Try.prog 15 #[.pointer (some ⟨d.Q, 0, none⟩), .int .i64 id, .int .i64 (off : Nat), .int .i64 (n : Nat)] w fun e w' =>
    ∃ t', e = .returned (.tuple #[.slice none 0 0, .int .i64 20]) ∧ Vw S w0 w' d t' C R k ∧ Nx S w w' d t t' ∧ Ev shP d.z 1 none9 t t' ∧ Nm d t t' := by
  refine (read_any (P := shP) shK_good shP_miss h.at_ h.inv h.hole (h.idb hC) (by have := h.nb; omega) (h.at1 (by omega)) (off : Int) (n : Int)).mono ?_
  rintro e w' ⟨t', v, er, rfl, hs, he, hn, hc⟩
  have hinb : inB d.z (off : Int) (n : Int) = true := inB_iff.2 (by omega)
  rcases hc with ⟨rfl, _, y, L, hy, hL, _⟩ | ⟨rfl, hc⟩
  · rw [hx] at hy
    cases hy
    rw [hc0] at hL
    cases hL
  · rcases hc with ⟨_, hc⟩ | ⟨_, hc, _⟩ | ⟨_, y, hy, ⟨_, hc⟩ | ⟨rfl, hc⟩⟩
    · rw [hx] at hc; cases hc
    · rw [hinb] at hc; cases hc
    · have := h.room hR
      omega
    · exact ⟨t', rfl, h.step (j := 1) hs he hn (Nat.le_refl _), Nx.of hs, he, ⟨hn.nx, hn.cm⟩⟩
section
variable {A : Option Addr} {n cb : Nat} {by_ : Bytes}
theorem vw_write (h : Vw S w0 w d t C R (k + 1)) (hR : R) (hC : C id = some (some b)) {off : Nat} (hS : SBy w A n by_) (hin : off + n ≤ d.z) (hV : VIn (fun k => ¬ Own d t k) (.slice A n cb)) : Calls Try.prog 12 #[.pointer (some ⟨d.Q, 0, none⟩), .int .i64 id, .int .i64 (off : Nat), .slice A n cb] w fun e w' =>
    e = .returned (.int .i64 0) ∧ ∃ t', Vw S w0 w' d t' (updC C id (some (some (setB b off by_)))) R k ∧ Nx S w w' d t t' ∧ Ev shP d.z 1 (· = id) t t' ∧ Nm d t t' := by
  have hz := h.at_.zs.2
  refine (write_any (P := shP) shK_good shP_miss h.at_ h.inv h.hole (h.idb hC) (by have := h.nb; omega) (h.at1 (by omega)) (off : Int) hS (by omega) hV).mono ?_
  rintro e w' ⟨t', er, rfl, hs, hn, hc⟩
  obtain ⟨x, hx, hcx, hl⟩ := h.con id b hC
  have hinb : inB d.z (off : Int) (by_.length : Int) = true := inB_iff.2 (by have := hS.1; omega)
  rcases hc with ⟨rfl, he, _, y, y', L, hy, hL, hLl, hy', _, _, hc'⟩ | ⟨he, hc⟩
  · rw [hx] at hy
    cases hy
    rw [hcx] at hL
    cases hL
    simp only [Int.toNat_natCast] at hc'
    exact ⟨rfl, t', h.put (j := 1) hs he hn (Nat.le_refl _) hC hy' hc' (by rw [setB_len (by have := hS.1; omega)]; exact hl), Nx.of hs, he, ⟨hn.nx, hn.cm⟩⟩
  · exfalso
    rcases hc with ⟨_, hc⟩ | ⟨_, hc, _⟩ | ⟨_, y, hy, ⟨_, hc⟩ | ⟨_, hc⟩⟩
    · rw [hx] at hc; cases hc
    · rw [hinb] at hc; cases hc
    · have := h.room hR
      omega
    · rw [hx] at hy
      cases hy
      rw [hcx] at hc
      cases hc
/-- With a sink that may be full. -/
theorem vw_write_full (h : Vw S w0 w d t C R (k + 1)) (hC : C id = some (some b)) {off : Nat} (hS : SBy w A n by_) (hin : off + n ≤ d.z) (hV : VIn (fun k => ¬ Own d t k) (.slice A n cb)) : Calls Try.prog 12 #[.pointer (some ⟨d.Q, 0, none⟩), .int .i64 id, .int .i64 (off : Nat), .slice A n cb] w fun e w' =>
    ∃ t', ((e = .returned (.int .i64 0) ∧ Vw S w0 w' d t' (updC C id (some (some (setB b off by_)))) R k) ∨ (e = .returned (.int .i64 7) ∧ Vw S w0 w' d t' C R k)) ∧ Nx S w w' d t t' ∧ Nm d t t' := by
  have hz := h.at_.zs.2
  refine (write_any (P := shP) shK_good shP_miss h.at_ h.inv h.hole (h.idb hC) (by have := h.nb; omega) (h.at1 (by omega)) (off : Int) hS (by omega) hV).mono ?_
  rintro e w' ⟨t', er, rfl, hs, hn, hc⟩
  obtain ⟨x, hx, hcx, hl⟩ := h.con id b hC
  have hinb : inB d.z (off : Int) (by_.length : Int) = true := inB_iff.2 (by have := hS.1; omega)
  rcases hc with ⟨rfl, he, _, y, y', L, hy, hL, hLl, hy', _, _, hc'⟩ | ⟨he, hc⟩
  · rw [hx] at hy
    cases hy
    rw [hcx] at hL
    cases hL
    simp only [Int.toNat_natCast] at hc'
    exact ⟨t', .inl ⟨rfl, h.put (j := 1) hs he hn (Nat.le_refl _) hC hy' hc' (by rw [setB_len (by have := hS.1; omega)]; exact hl)⟩, Nx.of hs, ⟨hn.nx, hn.cm⟩⟩
  · rcases hc with ⟨_, hc⟩ | ⟨_, hc, _⟩ | ⟨_, y, hy, ⟨rfl, hc⟩ | ⟨_, hc⟩⟩
    · rw [hx] at hc; cases hc
    · rw [hinb] at hc; cases hc
    · exact ⟨t', .inr ⟨rfl, h.step (j := 1) hs he hn (Nat.le_refl _)⟩, Nx.of hs, ⟨hn.nx, hn.cm⟩⟩
    · rw [hx] at hy
      cases hy
      rw [hcx] at hc
      cases hc
theorem vw_write_out (h : Vw S w0 w d t C R (k + 1)) (hC : C id = some o) {off : Int} (hS : SBy w A n by_) (hn40 : n ≤ 2 ^ 40) (hin : inB d.z off (n : Int) = false) (hpm : t.pm id ≠ none) (hV : VIn (fun k => ¬ Own d t k) (.slice A n cb)) : Calls Try.prog 12 #[.pointer (some ⟨d.Q, 0, none⟩), .int .i64 id, .int .i64 off, .slice A n cb] w fun e w' =>
    e = .returned (.int .i64 1) ∧ ∃ t', Vw S w0 w' d t' C R k ∧ Nx S w w' d t t' ∧ Nm d t t' := by
  refine (write_any (P := shP) shK_good shP_miss h.at_ h.inv h.hole (h.idb hC) (by have := h.nb; omega) (h.at1 (by omega)) off hS hn40 hV).mono ?_
  rintro e w' ⟨t', er, rfl, hs, hn, hc⟩
  rw [hS.1] at hc
  rcases hc with ⟨rfl, he, hc, _⟩ | ⟨he, hc⟩
  · rw [hin] at hc; cases hc
  · rcases hc with ⟨_, hc⟩ | ⟨rfl, _, _⟩ | ⟨hc, _⟩
    · exact absurd hc hpm
    · exact ⟨rfl, t', h.step (j := 1) hs he hn (Nat.le_refl _), Nx.of hs, ⟨hn.nx, hn.cm⟩⟩
    · rw [hin] at hc; cases hc
theorem vw_write_none (h : Vw S w0 w d t C R (k + 1)) (hC : C id = none) (hid : -9223372036854775808 ≤ id ∧ id ≤ 9223372036854775807) {off : Int} (hS : SBy w A n by_) (hn40 : n ≤ 2 ^ 40) (hV : VIn (fun k => ¬ Own d t k) (.slice A n cb)) : Calls Try.prog 12 #[.pointer (some ⟨d.Q, 0, none⟩), .int .i64 id, .int .i64 off, .slice A n cb] w fun e w' =>
    e = .returned (.int .i64 2) ∧ ∃ t', Vw S w0 w' d t' C R k ∧ Nx S w w' d t t' ∧ Nm d t t' := by
  have hpm := h.dom id hC
  refine (write_any (P := shP) shK_good shP_miss h.at_ h.inv h.hole hid (by have := h.nb; omega) (h.at1 (by omega)) off hS hn40 hV).mono ?_
  rintro e w' ⟨t', er, rfl, hs, hn, hc⟩
  rcases hc with ⟨rfl, he, _, y, y', L, hy, _⟩ | ⟨he, hc⟩
  · rw [hpm] at hy; cases hy
  · rcases hc with ⟨rfl, hc⟩ | ⟨rfl, _, hc⟩ | ⟨_, y, hy, _⟩
    · exact ⟨rfl, t', h.step (j := 1) hs he hn (Nat.le_refl _), Nx.of hs, ⟨hn.nx, hn.cm⟩⟩
    · exact absurd hpm hc
    · rw [hpm] at hy; cases hy
theorem vw_write_bad (h : Vw S w0 w d t C R (k + 1)) (hR : R) (hC : C id = some o) {off : Nat} (hS : SBy w A n by_) (hin : off + n ≤ d.z) (hV : VIn (fun k => ¬ Own d t k) (.slice A n cb)) {x : Pg} (hx : t.pm id = some x) (hc0 : cont (shP.rd t.s) d.z x = none) : Calls Try.prog 12 #[.pointer (some ⟨d.Q, 0, none⟩), .int .i64 id, .int .i64 (off : Nat), .slice A n cb] w fun e w' =>
    e = .returned (.int .i64 20) ∧ ∃ t', Vw S w0 w' d t' C R k ∧ Nx S w w' d t t' ∧ Ev shP d.z 1 none9 t t' ∧ Nm d t t' := by
  have hz := h.at_.zs.2
  refine (write_any (P := shP) shK_good shP_miss h.at_ h.inv h.hole (h.idb hC) (by have := h.nb; omega) (h.at1 (by omega)) (off : Int) hS (by omega) hV).mono ?_
  rintro e w' ⟨t', er, rfl, hs, hn, hc⟩
  have hinb : inB d.z (off : Int) (by_.length : Int) = true := inB_iff.2 (by have := hS.1; omega)
  rcases hc with ⟨rfl, he, _, y, y', L, hy, hL, _⟩ | ⟨he, hc⟩
  · rw [hx] at hy
    cases hy
    rw [hc0] at hL
    cases hL
  · rcases hc with ⟨_, hc⟩ | ⟨_, hc, _⟩ | ⟨_, y, hy, ⟨_, hc⟩ | ⟨rfl, hc⟩⟩
    · rw [hx] at hc; cases hc
    · rw [hinb] at hc; cases hc
    · have := h.room hR
      omega
    · exact ⟨rfl, t', h.step (j := 1) hs he hn (Nat.le_refl _), Nx.of hs, he, ⟨hn.nx, hn.cm⟩⟩
end
theorem vw_copy (h : Vw S w0 w d t C R (k + 2)) (hR : R) (hC : C id = some (some b)) : Calls Try.prog 14 #[.pointer (some ⟨d.Q, 0, none⟩), .int .i64 id] w fun e w' =>
    e = .returned (.tuple #[.int .i64 (t.nx : Nat), .int .i64 0]) ∧ ∃ t', Vw S w0 w' d t' (updC C t.nx (some (some b))) R k ∧ Nx S w w' d t t' ∧ t'.nx = t.nx + 1 ∧ t'.cm = t.cm + 1 := by
  refine (copy_any (P := shP) shK_good shP_miss h.at_ h.inv h.hole (h.idb hC) h.nxb (h.at1 (by omega))).mono ?_
  rintro e w' ⟨t', r, er, rfl, hs, hc⟩
  obtain ⟨x, hx, hcx, hl⟩ := h.con id b hC
  rcases hc with ⟨rfl, rfl, y, y', hy, hm, _, hcc⟩ | ⟨hn, he, _, hc⟩
  · rw [hx] at hy
    cases hy
    exact ⟨rfl, t', h.more (j := 1) hs hm (by omega) (fun b' hb => by cases hb; exact ⟨hcc b hcx, hl⟩), Nx.of hs, hm.nx, hm.cm⟩
  · exfalso
    rcases hc with ⟨_, hc⟩ | ⟨_, hc, _⟩
    · rw [hx] at hc; cases hc
    · have := h.room hR
      omega
theorem vw_evict (h : Vw S w0 w d t C R (k + (d.n + 1))) (n : Int) : Calls Try.prog 13 #[.pointer (some ⟨d.Q, 0, none⟩), .int .i64 n] w fun e w' =>
    ∃ (t' : PSt ShS) (j : Nat), e = .returned (.int .i64 (j : Nat)) ∧ Vw S w0 w' d t' C R k ∧ Nx S w w' d t t' ∧ Ev shP d.z (d.n + 1) none9 t t' ∧ Nm d t t' ∧ cntF qUsed t'.F d.n + j = cntF qUsed t.F d.n ∧ ((j : Int) ≤ n ∨ j = 0) := by
  refine (evict_any (P := shP) shK_good shP_miss h.at_ h.inv h.hole (by have := h.nb; omega) (shK_good.mono _ _ _ h.rdy (by omega)) n).mono ?_
  rintro e w' ⟨t', j, rfl, hs, he, hn, hc, hl⟩
  exact ⟨t', j, rfl, h.step (j := d.n + 1) hs he hn (Nat.le_refl _), Nx.of hs, he, ⟨hn.nx, hn.cm⟩, hc, hl⟩
theorem vw_drop (h : Vw S w0 w d t C R k) (hC : C id = some o) (hpm : t.pm id ≠ none) : Calls Try.prog 25 #[.pointer (some ⟨d.Q, 0, none⟩), .int .i64 id] w fun e w' =>
    e = .returned (.int .i64 0) ∧ ∃ t', Vw S w0 w' d t' (updC C id none) R k ∧ Nx S w w' d t t' ∧ t'.nx = t.nx ∧ t'.cm = t.cm - 1 := by
  refine (drop_any (P := shP) h.at_ h.inv h.hole (h.idb hC)).mono ?_
  rintro e w' ⟨t', er, rfl, hs, ⟨_, hc, _⟩ | ⟨rfl, _, g1, g2, g3, g4, g5⟩⟩
  · exact absurd hc hpm
  · exact ⟨rfl, t', h.del hs g1 g3 g4 g5, Nx.of hs, g3, g2⟩
theorem vw_drop_none (h : Vw S w0 w d t C R k) (hC : C id = none) (hid : -9223372036854775808 ≤ id ∧ id ≤ 9223372036854775807) : Calls Try.prog 25 #[.pointer (some ⟨d.Q, 0, none⟩), .int .i64 id] w fun e w' =>
    e = .returned (.int .i64 2) ∧ Vw S w0 w' d t C R k ∧ Nx S w w' d t t := by
  have hpm := h.dom id hC
  refine (drop_any (P := shP) h.at_ h.inv h.hole hid).mono ?_
  rintro e w' ⟨t', er, rfl, hs, ⟨rfl, hc, rfl⟩ | ⟨rfl, hc, _⟩⟩
  · exact ⟨rfl, h.step (j := 0) hs (Ev.refl shK_good _) (Num.refl _) (Nat.le_refl _), Nx.of hs⟩
  · exact absurd hpm hc
theorem vw_save (h : Vw S w0 w d t C R (k + 1)) (hR : R) (hC : C id = some (some b)) : Calls Try.prog 16 #[.pointer (some ⟨d.Q, 0, none⟩), .int .i64 id] w fun e w' =>
    ∃ (t' : PSt ShS) (a : Int × Int), e = .returned (.tuple #[addrV a, .int .i64 0]) ∧ Vw S w0 w' d t' C R k ∧ Nx S w w' d t t' ∧ Ev shP d.z 1 none9 t t' ∧ Nm d t t' ∧ shP.rd t'.s a = some b ∧ (∃ x, t'.pm id = some x ∧ x.put = true ∧ x.at_ = a) ∧ ((whA (t.pm id)).2 = true → t'.s.L.length = t.s.L.length) := by
  refine (savep_any (P := shP) shK_good shP_miss h.at_ h.inv h.hole (h.idb hC) (h.at1 (by omega))).mono ?_
  rintro e w' ⟨t', a, er, rfl, hs, he, hn, hc⟩
  obtain ⟨x, hx, hcx, hl⟩ := h.con id b hC
  rcases hc with ⟨_, hc⟩ | ⟨_, hc, _⟩ | ⟨rfl, y, hy, hy', h1, h2⟩
  · rw [hx] at hc; cases hc
  · have := h.room hR
    omega
  · rw [hx] at hy
    cases hy
    refine ⟨t', a, rfl, h.step (j := 1) hs he hn (Nat.le_refl _), Nx.of hs, he, ⟨hn.nx, hn.cm⟩, h1 b hcx, ⟨_, hy', rfl, rfl⟩, fun hw => h2 ?_⟩
    rw [hx] at hw
    unfold whA at hw
    simp only at hw
    split at hw
    · rename_i hp; exact hp
    · cases hw
theorem vw_where (h : Vw S w0 w d t C R k) (hC : C id = some o) : Calls Try.prog 40 #[.pointer (some ⟨d.Q, 0, none⟩), .int .i64 id] w fun e w' =>
    e = .returned (.tuple #[addrV (whA (t.pm id)).1, .bool (whA (t.pm id)).2]) ∧ Vw S w0 w' d t C R k ∧ Nx S w w' d t t := by
  refine (where_any h.at_ h.hole (h.idb hC)).mono ?_
  rintro e w' ⟨rfl, hb⟩
  exact ⟨rfl, h.up hb, Nx.refl.up hb⟩
theorem vw_move (h : Vw S w0 w d t C R k) (hC : C id = some (some b)) {x : Pg} (hx : t.pm id = some x) (hp : x.put = true) {a : Int × Int} (ha : shP.rd t.s a = some b) : Calls Try.prog 42 #[.pointer (some ⟨d.Q, 0, none⟩), .int .i64 id, addrV a] w fun e w' =>
    e = .returned (.int .i64 0) ∧ ∃ t' x', Vw S w0 w' d t' C R k ∧ Nx S w w' d t t' ∧ Nm d t t' ∧ t'.s = t.s ∧ t'.pm id = some x' ∧ x'.put = true ∧ x'.at_ = a := by
  obtain ⟨y, hy, hcy, hl⟩ := h.con id b hC
  rw [hx] at hy
  cases hy
  refine (move_any (P := shP) shK_good h.at_ h.inv h.hole (h.idb hC) a (fun y L hy hL => by rw [hx] at hy; cases hy; rw [hcy] at hL; cases hL; exact ha)).mono ?_
  rintro e w' ⟨t', er, rfl, hs, hn, he, hss, ⟨_, hc, _⟩ | ⟨_, ⟨y, hy, hc⟩, _⟩ | ⟨rfl, y, hy, _, hy', hcc⟩⟩
  · rw [hx] at hc; cases hc
  · rw [hx] at hy
    cases hy
    rw [hp] at hc
    cases hc
  · rw [hx] at hy
    cases hy
    have h2 := h.put (j := 0) hs he hn (Nat.le_refl _) hC hy' (hcc b hcy) hl
    have e1 : updC C id (some (some b)) = C := by
      funext i
      unfold updC
      split
      · rename_i hi; rw [hi, hC]
      · rfl
    rw [e1] at h2
    exact ⟨rfl, t', _, h2, Nx.of hs, ⟨hn.nx, hn.cm⟩, hss, hy', hp, rfl⟩
end
end Go.Proofs.Ytmipngefpedfpaa
