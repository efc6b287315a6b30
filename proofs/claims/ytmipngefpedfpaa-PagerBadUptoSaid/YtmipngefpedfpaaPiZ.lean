/- A pager: within, Read. -/
import Derived.Test.YtmipngefpedfpaaPhZ
namespace Go.Proofs.Ytmipngefpedfpaa
open Go.RowKit Go.Maps
set_option linter.unusedVariables false
set_option linter.unusedSimpArgs false

def inB (z : Nat) (off n : Int) : Bool := decide (0 ≤ off) && decide (0 ≤ n) && decide (n ≤ (z : Int)) && decide (off ≤ (z : Int) - n)
theorem inB_iff {z : Nat} {off n : Int} : inB z off n = true ↔ 0 ≤ off ∧ 0 ≤ n ∧ off + n ≤ (z : Int) := by
  unfold inB
  simp only [Bool.and_eq_true, decide_eq_true_eq]
  constructor <;> intro h <;> omega
/-- Bytes that a page has. -/
def secP (L : Bytes) (off n : Nat) : Bytes := (L.drop off).take n
def RdPost {σ : Type} {K : SnkF σ} {M : Snk K} (P : PSnk K) (w : World) (d : PD) (t : PSt σ) (id off n : Int) (e : Ending) (w' : World) : Prop :=
  ∃ t' v er, e = .returned (.tuple #[v, .int .i64 er]) ∧ Stp M P w w' d t t' ∧ Ev P d.z 1 none9 t t' ∧ Num t t' ∧
    ((er = 0 ∧ inB d.z off n = true ∧ ∃ x L, t.pm id = some x ∧ cont (P.rd t.s) d.z x = some L ∧ L.length = d.z ∧ (∃ A c, v = .slice A n.toNat c) ∧ SlB w' v (secP L off.toNat n.toNat) ∧ VIn (fun k => ¬ Own d t' k ∧ w.heap.size ≤ k) v) ∨
    (v = .slice none 0 0 ∧ ((er = 2 ∧ t.pm id = none) ∨ (er = 1 ∧ inB d.z off n = false ∧ t.pm id ≠ none) ∨ (inB d.z off n = true ∧ ∃ x, t.pm id = some x ∧ ((er = P.ez ∧ P.room t.s = 0) ∨ (er = 20 ∧ cont (P.rd t.s) d.z x = none))))))
section
variable {σ : Type} {K : SnkF σ} {M : Snk K} {P : PSnk K} {w w' w1 w2 w3 w4 w5 : World} {d : PD} {t t' t1 t2 : PSt σ} {id : Int} {x : Pg} {j : Nat}
set_option maxRecDepth 100000 in
set_option maxHeartbeats 1000000 in
theorem within_any (h : PgrAt M w d t) (off n : Int) : Calls Try.prog 28 #[.pointer (some ⟨d.Q, 0, none⟩), .int .i64 off, .int .i64 n] w fun e w' => e = .returned (.bool (inB d.z off n)) ∧ w = w' := by
  have q1 := h.q1
  obtain ⟨hz1, hz2⟩ := h.zs
  clear h
  by_cases h1 : 0 ≤ off
  · by_cases h2 : 0 ≤ n
    · by_cases h3 : n ≤ (d.z : Int)
      · have e : Hid (inB d.z off n = decide (off ≤ (d.z : Int) - n)) := Lib.hid (by unfold inB; simp [h1, h2, h3])
        have hw : wrap64 ((d.z : Int) - n) = (d.z : Int) - n := by unfold wrap64; omega
        go_enter Try.func28, Try.ntmps28
        go_wp2
        go_ret
        exact ⟨by rw [e.out]; rfl, rfl⟩
      · have e : Hid (inB d.z off n = false) := Lib.hid (by unfold inB; simp [h3])
        go_enter Try.func28, Try.ntmps28
        go_wp2
        go_ret
        exact ⟨by rw [e.out]; rfl, rfl⟩
    · have e : Hid (inB d.z off n = false) := Lib.hid (by unfold inB; simp [h2])
      go_enter Try.func28, Try.ntmps28
      go_wp2
      go_ret
      exact ⟨by rw [e.out]; rfl, rfl⟩
  · have e : Hid (inB d.z off n = false) := Lib.hid (by unfold inB; simp [h1])
    go_enter Try.func28, Try.ntmps28
    go_wp2
    go_ret
    exact ⟨by rw [e.out]; rfl, rfl⟩
theorem vis_none (h0 : t.hole = none) (k : Int) : visP t.pm t.hole k = t.pm k := by
  unfold visP
  rw [h0, if_neg (fun e => by cases e)]
/-- Nothing has been done. -/
theorem rd_no (hK : K.Good) (h : PgrAt M w d t) (hi : PI P d t) {off n er : Int} (hc : (er = 2 ∧ t.pm id = none) ∨ (er = 1 ∧ inB d.z off n = false ∧ t.pm id ≠ none)) : RdPost (M := M) P w d t id off n (.returned (.tuple #[.slice none 0 0, .int .i64 er])) w :=
  ⟨t, _, er, rfl, Stp.refl h hi, Ev.refl hK t, Num.refl t, .inr ⟨rfl, hc.elim .inl (fun h => .inr (.inl h))⟩⟩
theorem ByAt.part {z B c : Nat} {L : Bytes} (h : ByAt w z B c L) {off n : Nat} (hn : off + n ≤ z) (hz : 16 ≤ z) : SBy w (some ⟨B, off, none⟩) n (secP L off n) := by
  obtain ⟨b, o, e, hb, hc⟩ := h.sby.2 (by omega)
  cases e
  refine ⟨by unfold secP; rw [List.length_take, List.length_drop, h.len]; omega, fun hp => ⟨B, off, rfl, hb, fun k hk => ?_⟩⟩
  have := hc (off + k) (by omega)
  rw [Nat.zero_add] at this
  rw [this]
  simp [at8, secP, List.getD_eq_getElem?_getD, List.getElem?_take, List.getElem?_drop, hk]
theorem rd_yes {off n : Nat} {A : Option Addr} {c : Nat} {L : Bytes} (S : Stp M P w w1 d t t1) (E : Ev P d.z 1 none9 t t1) (N : Num t t1) (hb : inB d.z (off : Int) (n : Int) = true) (hx : t.pm id = some x) (hc : cont (P.rd t.s) d.z x = some L) (hl : L.length = d.z) (hf : FrB w1 w2 (.slice A n c) (secP L off n)) :
    RdPost (M := M) P w d t id (off : Int) (n : Int) (.returned (.tuple #[.slice A n c, .int .i64 0])) w2 := by
  obtain ⟨h1, h2⟩ := hf.slA
  refine ⟨t1, _, 0, rfl, S.up hf.bel, E, N, .inl ⟨rfl, hb, x, L, hx, hc, hl, ⟨A, c, rfl⟩, h1.slB, fun b o n' c' e hn => ?_⟩⟩
  have := h2 b o n' c' e
  refine ⟨fun e2 => ?_, Nat.le_trans S.off.size this⟩
  have := S.at_.ltO e2
  omega
set_option maxRecDepth 100000 in
set_option maxHeartbeats 4000000 in
theorem read_any (hK : K.Good) (hmi : P.Miss) (h : PgrAt M w d t) (hi : PI P d t) (h0 : t.hole = none) (hid : -9223372036854775808 ≤ id ∧ id ≤ 9223372036854775807) (hnx : t.nx < 9223372036854775807) (hrd : K.Rdy t.s 1) (off n : Int) :
    Calls Try.prog 15 #[.pointer (some ⟨d.Q, 0, none⟩), .int .i64 id, .int .i64 off, .int .i64 n] w (RdPost (M := M) P w d t id off n) := by
  have hlk := h.look hid
  rw [vis_none h0] at hlk
  have HW := Lib.hid (within_any h off n)
  have H := Lib.hid h
  have HI := Lib.hid hi
  have H0 := Lib.hid h0
  obtain ⟨hz1, hz2⟩ := h.zs
  have q4 := h.q4
  cases hx : t.pm id with
  | none =>
    rw [hx] at hlk
    have HX := Lib.hid hx
    simp only [pgP, Option.map_none] at hlk
    clear h hi h0 hx
    go_enter Try.func15, Try.ntmps15
    go_wp2
    go_ret2
    exact rd_no hK H.out HI.out (.inl ⟨rfl, HX.out⟩)
  | some x =>
    rw [hx] at hlk
    have HX := Lib.hid hx
    simp only [pgP, Option.map_some] at hlk
    have HBR := Lib.hid (bring_any hK hmi h hi hx (.inl h0) hid hnx hrd false)
    cases hb : inB d.z off n with
    | false =>
      rw [hb] at HW
      have HB := Lib.hid hb
      clear h hi h0 hx hb HBR
      go_enter Try.func15, Try.ntmps15
      go_wp2_with fail
      refine HW.out.mono ?_
      rintro e w1 ⟨rfl, rfl⟩
      go_wp2
      go_ret2
      exact rd_no hK H.out HI.out (.inr ⟨rfl, HB.out, by rw [HX.out]; simp⟩)
    | true =>
      rw [hb] at HW
      have HB := Lib.hid hb
      obtain ⟨o1, o2, o3⟩ := inB_iff.1 hb
      clear h hi h0 hx hb
      go_enter Try.func15, Try.ntmps15
      go_wp2_with fail
      refine HW.out.mono ?_
      rintro e w1 ⟨rfl, rfl⟩
      go_wp2_with fail
      refine HBR.out.mono ?_
      rintro e w1 ⟨t1, er, rfl, S1, E1, N1, hcs⟩
      have S := Lib.hid S1
      have E := Lib.hid E1
      have N := Lib.hid N1
      clear S1 E1 N1 hlk q4 HW HBR
      rcases hcs with ⟨rfl, ⟨B, c, L, hx1, hc, hl⟩, _⟩ | hcs
      · obtain ⟨off, rfl⟩ := Int.eq_ofNat_of_zero_le o1
        obtain ⟨n, rfl⟩ := Int.eq_ofNat_of_zero_le o2
        have HC := Lib.hid hc
        have HL := Lib.hid hl
        have HX1 := Lib.hid hx1
        have hpg := S.out.at_.pg id _ hx1
        have hby := hpg.bs B c L rfl
        have p0 := hpg.c0
        unfold Pg.bv at p0
        simp only [hl] at p0
        have hcap := hby.cap
        have HBY := Lib.hid hby
        have hon : off + n ≤ d.z := by omega
        clear hc hl hx1 hpg hby o1 o2 o3
        by_cases hcz : off = c
        · subst hcz
          obtain rfl : n = 0 := by omega
          go_wp2_with fail
          refine (clone_any _ _ _ _ [] (SBy.nil _ _) (by omega)).mono ?_
          rintro e w2 ⟨A', c', rfl, hf, _⟩
          have HF := Lib.hid hf
          clear hf p0
          go_wp2
          go_ret2
          exact rd_yes S.out E.out N.out HB.out HX.out HC.out HL.out (n := 0) (by unfold secP; simpa using HF.out)
        · have HCL := Lib.hid (clone_any w1 (some ⟨B, off, none⟩) n (c - off) _ (HBY.out.part hon hz1) (by omega))
          go_wp2_with fail
          refine HCL.out.mono ?_
          rintro e w2 ⟨A', c', rfl, hf, _⟩
          have HF := Lib.hid hf
          clear hf p0 HCL
          go_wp2
          go_ret2
          exact rd_yes S.out E.out N.out HB.out HX.out HC.out HL.out HF.out
      · rcases hcs with ⟨rfl, hr, _⟩ | ⟨rfl, hr, _⟩
        · have HR := Lib.hid hr
          have he0 := P.ez0
          clear hr
          go_wp2
          go_ret2
          exact ⟨t1, _, P.ez, rfl, S.out, E.out, N.out, .inr ⟨rfl, .inr (.inr ⟨HB.out, x, HX.out, .inl ⟨rfl, HR.out⟩⟩)⟩⟩
        · have HR := Lib.hid hr
          clear hr
          go_wp2
          go_ret2
          exact ⟨t1, _, 20, rfl, S.out, E.out, N.out, .inr ⟨rfl, .inr (.inr ⟨HB.out, x, HX.out, .inr ⟨rfl, HR.out⟩⟩)⟩⟩
end
end Go.Proofs.Ytmipngefpedfpaa
