/- A pager: within, Read. A pager: Write. A pager: Write, walked. A pager: add, Make, Bring. -/
import Derived.Test.YtlhfjaagkgengaaGreatMPb
import Derived.Laws.CopyOwn
namespace Go.Proofs.YtlhfjaagkgengaaGreat
open Go.RowKit Go.Maps
set_option linter.unusedVariables false
set_option linter.unusedSimpArgs false

def inB (z : Nat) (off n : Int) : Bool := decide (0 ≤ off) && decide (0 ≤ n) && decide (n ≤ (z : Int)) && decide (off ≤ (z : Int) - n)
theorem inB_iff {z : Nat} {off n : Int} : inB z off n = true ↔ 0 ≤ off ∧ 0 ≤ n ∧ off + n ≤ (z : Int) := by
  unfold inB
  simp only [Bool.and_eq_true, decide_eq_true_eq]
  constructor <;> intro h <;> omega
/-- Bytes that a page has. -/
def secP (L : Bytes) (off n : Nat) : Bytes := (L.drop off).take n
def RdPost {σ : Type} {K : SnkF σ} {M : Snk K} (P : PSnk K) (w : World) (d : PD) (t : PSt σ) (id off n : Int) (e : Ending) (w' : World) : Prop :=
  ∃ t' v er, e = .returned (.tuple #[v, .int .i64 er]) ∧ Stp M P w w' d t t' ∧ Ev P d.z 1 none9 t t' ∧ Num t t' ∧
    ((er = 0 ∧ inB d.z off n = true ∧ ∃ x L, t.pm id = some x ∧ cont (P.rd t.s) d.z x = some L ∧ L.length = d.z ∧ (∃ A c, v = .slice A n.toNat c) ∧ SlB w' v (secP L off.toNat n.toNat) ∧ VIn (fun k => ¬ Own d t' k ∧ w.heap.size ≤ k) v) ∨
    (v = .slice none 0 0 ∧ ((er = 2 ∧ t.pm id = none) ∨ (er = 1 ∧ inB d.z off n = false ∧ t.pm id ≠ none) ∨ (inB d.z off n = true ∧ ∃ x, t.pm id = some x ∧ ((er = P.ez ∧ P.room t.s = 0) ∨ (er = 20 ∧ cont (P.rd t.s) d.z x = none))))))
section
variable {σ : Type} {K : SnkF σ} {M : Snk K} {P : PSnk K} {w w' w1 w2 w3 w4 w5 : World} {d : PD} {t t' t1 t2 : PSt σ} {id : Int} {x : Pg} {j : Nat}
set_option maxRecDepth 100000 in
set_option maxHeartbeats 1000000 in
theorem within_any (h : PgrAt M w d t) (off n : Int) : Calls Tryz.prog 79 #[.pointer (some ⟨d.Q, 0, none⟩), .int .i64 off, .int .i64 n] w fun e w' => e = .returned (.bool (inB d.z off n)) ∧ w = w' := by
  have q1 := h.q1
  obtain ⟨hz1, hz2⟩ := h.zs
  clear h
  by_cases h1 : 0 ≤ off
  · by_cases h2 : 0 ≤ n
    · by_cases h3 : n ≤ (d.z : Int)
      · have e : Hid (inB d.z off n = decide (off ≤ (d.z : Int) - n)) := Lib.hid (by unfold inB; simp [h1, h2, h3])
        have hw : wrap64 ((d.z : Int) - n) = (d.z : Int) - n := by unfold wrap64; omega
        go_enter Tryz.func79, Tryz.ntmps79
        go_wp2
        go_ret
        exact ⟨by rw [e.out]; rfl, rfl⟩
      · have e : Hid (inB d.z off n = false) := Lib.hid (by unfold inB; simp [h3])
        go_enter Tryz.func79, Tryz.ntmps79
        go_wp2
        go_ret
        exact ⟨by rw [e.out]; rfl, rfl⟩
    · have e : Hid (inB d.z off n = false) := Lib.hid (by unfold inB; simp [h2])
      go_enter Tryz.func79, Tryz.ntmps79
      go_wp2
      go_ret
      exact ⟨by rw [e.out]; rfl, rfl⟩
  · have e : Hid (inB d.z off n = false) := Lib.hid (by unfold inB; simp [h1])
    go_enter Tryz.func79, Tryz.ntmps79
    go_wp2
    go_ret
    exact ⟨by rw [e.out]; rfl, rfl⟩
theorem vis_none (h0 : t.hole = none) (k : Int) : visP t.pm t.hole k = t.pm k := by
  unfold visP
  rw [h0, if_neg (fun e => by cases e)]
/-- Nothing has been done. -/
theorem rd_no (hK : K.Good) (h : PgrAt M w d t) (hi : PI P d t) {off n er : Int} (hc : (er = 2 ∧ t.pm id = none) ∨ (er = 1 ∧ inB d.z off n = false ∧ t.pm id ≠ none)) : RdPost (M := M) P w d t id off n (.returned (.tuple #[.slice none 0 0, .int .i64 er])) w :=
  ⟨t, _, er, rfl, Stp.refl h hi, Ev.refl hK t, Num.refl t, .inr ⟨rfl, hc.elim .inl (fun h => .inr (.inl h))⟩⟩
theorem ByAt.part {z B c : Nat} {L : Bytes} (h : ByAt w z B c L) {off n : Nat} (hn : off + n ≤ z) (hz : 16 ≤ z) : SBy w (some ⟨B, off, none⟩) n (secP L off n) := by
  obtain ⟨b, o, e, hb, hc⟩ := h.sby.2 (by omega)
  cases e
  refine ⟨by unfold secP; rw [List.length_take, List.length_drop, h.len]; omega, fun hp => ⟨B, off, rfl, hb, fun k hk => ?_⟩⟩
  have := hc (off + k) (by omega)
  rw [Nat.zero_add] at this
  rw [this]
  simp [at8, secP, List.getD_eq_getElem?_getD, List.getElem?_take, List.getElem?_drop, hk]
theorem rd_yes {off n : Nat} {A : Option Addr} {c : Nat} {L : Bytes} (S : Stp M P w w1 d t t1) (E : Ev P d.z 1 none9 t t1) (N : Num t t1) (hb : inB d.z (off : Int) (n : Int) = true) (hx : t.pm id = some x) (hc : cont (P.rd t.s) d.z x = some L) (hl : L.length = d.z) (hf : FrB w1 w2 (.slice A n c) (secP L off n)) :
    RdPost (M := M) P w d t id (off : Int) (n : Int) (.returned (.tuple #[.slice A n c, .int .i64 0])) w2 := by
  obtain ⟨h1, h2⟩ := hf.slA
  refine ⟨t1, _, 0, rfl, S.up hf.bel, E, N, .inl ⟨rfl, hb, x, L, hx, hc, hl, ⟨A, c, rfl⟩, h1.slB, fun b o n' c' e hn => ?_⟩⟩
  have := h2 b o n' c' e
  refine ⟨fun e2 => ?_, Nat.le_trans S.off.size this⟩
  have := S.at_.ltO e2
  omega
set_option maxRecDepth 100000 in
set_option maxHeartbeats 4000000 in
theorem read_any (hK : K.Good) (hmi : P.Miss) (h : PgrAt M w d t) (hi : PI P d t) (h0 : t.hole = none) (hid : -9223372036854775808 ≤ id ∧ id ≤ 9223372036854775807) (hnx : t.nx < 9223372036854775807) (hrd : K.Rdy t.s 1) (off n : Int) :
    Calls Tryz.prog 27 #[.pointer (some ⟨d.Q, 0, none⟩), .int .i64 id, .int .i64 off, .int .i64 n] w (RdPost (M := M) P w d t id off n) := by
  have hlk := h.look hid
  rw [vis_none h0] at hlk
  have HW := Lib.hid (within_any h off n)
  have H := Lib.hid h
  have HI := Lib.hid hi
  have H0 := Lib.hid h0
  obtain ⟨hz1, hz2⟩ := h.zs
  have q4 := h.q4
  cases hx : t.pm id with
  | none =>
    rw [hx] at hlk
    have HX := Lib.hid hx
    simp only [pgP, Option.map_none] at hlk
    clear h hi h0 hx
    go_enter Tryz.func27, Tryz.ntmps27
    go_wp2
    go_ret2
    exact rd_no hK H.out HI.out (.inl ⟨rfl, HX.out⟩)
  | some x =>
    rw [hx] at hlk
    have HX := Lib.hid hx
    simp only [pgP, Option.map_some] at hlk
    have HBR := Lib.hid (bring_any hK hmi h hi hx (.inl h0) hid hnx hrd false)
    cases hb : inB d.z off n with
    | false =>
      rw [hb] at HW
      have HB := Lib.hid hb
      clear h hi h0 hx hb HBR
      go_enter Tryz.func27, Tryz.ntmps27
      go_wp2_with fail
      refine HW.out.mono ?_
      rintro e w1 ⟨rfl, rfl⟩
      go_wp2
      go_ret2
      exact rd_no hK H.out HI.out (.inr ⟨rfl, HB.out, by rw [HX.out]; simp⟩)
    | true =>
      rw [hb] at HW
      have HB := Lib.hid hb
      obtain ⟨o1, o2, o3⟩ := inB_iff.1 hb
      clear h hi h0 hx hb
      go_enter Tryz.func27, Tryz.ntmps27
      go_wp2_with fail
      refine HW.out.mono ?_
      rintro e w1 ⟨rfl, rfl⟩
      go_wp2_with fail
      refine HBR.out.mono ?_
      rintro e w1 ⟨t1, er, rfl, S1, E1, N1, hcs⟩
      have S := Lib.hid S1
      have E := Lib.hid E1
      have N := Lib.hid N1
      clear S1 E1 N1 hlk q4 HW HBR
      rcases hcs with ⟨rfl, ⟨B, c, L, hx1, hc, hl⟩, _⟩ | hcs
      · obtain ⟨off, rfl⟩ := Int.eq_ofNat_of_zero_le o1
        obtain ⟨n, rfl⟩ := Int.eq_ofNat_of_zero_le o2
        have HC := Lib.hid hc
        have HL := Lib.hid hl
        have HX1 := Lib.hid hx1
        have hpg := S.out.at_.pg id _ hx1
        have hby := hpg.bs B c L rfl
        have p0 := hpg.c0
        unfold Pg.bv at p0
        simp only [hl] at p0
        have hcap := hby.cap
        have HBY := Lib.hid hby
        have hon : off + n ≤ d.z := by omega
        clear hc hl hx1 hpg hby o1 o2 o3
        by_cases hcz : off = c
        · subst hcz
          obtain rfl : n = 0 := by omega
          go_wp2_with fail
          refine (clone_any _ _ _ _ [] (SBy.nil _ _) (by omega)).mono ?_
          rintro e w2 ⟨A', c', rfl, hf, _⟩
          have HF := Lib.hid hf
          clear hf p0
          go_wp2
          go_ret2
          exact rd_yes S.out E.out N.out HB.out HX.out HC.out HL.out (n := 0) (by unfold secP; simpa using HF.out)
        · have HCL := Lib.hid (clone_any w1 (some ⟨B, off, none⟩) n (c - off) _ (HBY.out.part hon hz1) (by omega))
          go_wp2_with fail
          refine HCL.out.mono ?_
          rintro e w2 ⟨A', c', rfl, hf, _⟩
          have HF := Lib.hid hf
          clear hf p0 HCL
          go_wp2
          go_ret2
          exact rd_yes S.out E.out N.out HB.out HX.out HC.out HL.out HF.out
      · rcases hcs with ⟨rfl, hr, _⟩ | ⟨rfl, hr, _⟩
        · have HR := Lib.hid hr
          have he0 := P.ez0
          clear hr
          go_wp2
          go_ret2
          exact ⟨t1, _, P.ez, rfl, S.out, E.out, N.out, .inr ⟨rfl, .inr (.inr ⟨HB.out, x, HX.out, .inl ⟨rfl, HR.out⟩⟩)⟩⟩
        · have HR := Lib.hid hr
          clear hr
          go_wp2
          go_ret2
          exact ⟨t1, _, 20, rfl, S.out, E.out, N.out, .inr ⟨rfl, .inr (.inr ⟨HB.out, x, HX.out, .inr ⟨rfl, HR.out⟩⟩)⟩⟩
end
end Go.Proofs.YtlhfjaagkgengaaGreat
namespace Go.Proofs.YtlhfjaagkgengaaGreat
open Go.RowKit Go.Maps
set_option linter.unusedVariables false
set_option linter.unusedSimpArgs false

/-- Bytes b are laid over L, from off on. -/
def setB (L : Bytes) (off : Nat) (b : Bytes) : Bytes := L.take off ++ (b ++ L.drop (off + b.length))
theorem setB_len {L : Bytes} {off : Nat} {b : Bytes} (h : off + b.length ≤ L.length) : (setB L off b).length = L.length := by simp [setB]; omega
theorem setB_same {L : Bytes} {off : Nat} {b : Bytes} (h : off + b.length ≤ L.length) (he : secP L off b.length = b) : setB L off b = L := by
  unfold setB secP at *
  conv => rhs; rw [← List.take_append_drop off L, ← List.take_append_drop b.length (L.drop off), he, List.drop_drop]
theorem at8_setB {L : Bytes} {off : Nat} {b : Bytes} (h : off + b.length ≤ L.length) (k : Nat) (hk : k < L.length) : at8 (setB L off b) k = if off ≤ k ∧ k < off + b.length then at8 b (k - off) else at8 L k := by
  unfold at8 setB
  rw [List.getD_eq_getElem?_getD, List.getD_eq_getElem?_getD, List.getD_eq_getElem?_getD]
  by_cases h1 : k < off
  · rw [if_neg (by omega), List.getElem?_append_left (by simp; omega), List.getElem?_take, if_pos h1]
  · rw [List.getElem?_append_right (by simp; omega)]
    have e : (L.take off).length = off := by simp; omega
    rw [e]
    by_cases h2 : k < off + b.length
    · rw [if_pos ⟨by omega, h2⟩, List.getElem?_append_left (by omega)]
    · rw [if_neg (by omega), List.getElem?_append_right (by omega), List.getElem?_drop]
      rw [show off + b.length + (k - off - b.length) = k by omega]
/-- copy, onto bytes that are known whole. -/
theorem wpList_copy_by {ops : Array Oper} {rest : List Oper} {o : Oper} {a : Act} {w : World} {Q : Exit → Act → World → Prop} (hgd : o.guard = none) (dd s : Operand)
    (ho : o.op = .call { callee := .builtin .copy, args := #[dd, s], argTypes := #[24, 24] }) {z B c off m n dCap sCap : Nat} {L b : Bytes} {dp sp : Option Addr} (hd : a.eval dd = .slice dp n dCap) (hs : a.eval s = .slice sp m sCap)
    (hby : ByAt w z B c L) (hz : 16 ≤ z) (hS : SBy w sp m b) (hfit : off + m ≤ z) (hn : n = z - off) (hdp : 0 < m → dp = some ⟨B, off, none⟩)
    (h : ∀ w', ByAt w' z B c (setB L off b) → Off (· = B) w w' → wpList Tryz.prog ops Q rest (a.put o.dst (.int .i64 (m : Nat))) w') : wpList Tryz.prog ops Q (o :: rest) a w := by
  have hsz : (Tryz.prog.info? 5).map (·.size) = some 1 := by
    obtain ⟨i, hi, _, h1, _⟩ := info_parts byte_info
    simp [hi, h1]
  have hbl := hS.1
  rcases Nat.eq_zero_or_pos m with h0 | hp
  · subst h0
    have hb : b = [] := by simpa using hbl
    subst hb
    have hsame : setB L off [] = L := by simp [setB]
    refine wpList_copy_nothing hgd dd s 24 24 ho 5 Tryz.underlying24 hsz dp sp n dCap 0 sCap hd hs (by exact Nat.zero_min n) ?_
    rw [hsame] at h
    exact h w hby (Off.refl _ _)
  · obtain ⟨b1, o1, rfl, hb1, hc1⟩ := hS.2 hp
    rw [hdp hp] at hd
    obtain ⟨cur, t, hrow, hcur⟩ := hby.row
    have hlen : (b.map bv).length = m := by simp [hbl]
    refine wpList_copy_own hgd dd s 24 24 ho 5 Tryz.underlying24 hsz B off n dCap ⟨b1, o1, none⟩ m sCap hd hs cur t hrow (b.map bv) ?_ (fun j v hj => ?_) (by rw [hlen]; omega) (fun v hv => ?_) ?_
    · rw [hlen]
      show m = min m n
      omega
    · have hj' : j < b.length := by
        rcases Nat.lt_or_ge j b.length with h | h
        · exact h
        · rw [List.getElem?_eq_none (by simpa using h)] at hj; cases hj
      rw [show (⟨b1, o1, none⟩ : Addr).add j = ⟨b1, o1 + j, none⟩ by unfold Addr.add; split <;> simp_all, hc1 j (by omega), at8_get hj']
      simp [hj'] at hj
      rw [← hj]
      rfl
    · obtain ⟨x, _, rfl⟩ := List.mem_map.1 hv
      simp [bv, Value.oneCell']
    · rw [hlen]
      have hBl := (Array.getElem?_eq_some_iff.1 hrow).1
      have hnew := setRow_heap w B cur (cur.toList.take off ++ (b.map bv ++ cur.toList.drop (off + m))).toArray t (0, 0) hrow
      have hcs : (cur.toList.take off ++ (b.map bv ++ cur.toList.drop (off + m))).length = cur.size := by simp [hbl]; omega
      refine h _ ⟨?_, hby.cap, ⟨?_, fun _ => ⟨B, 0, rfl, ?_, fun k hk => ?_⟩⟩, fun k => ?_, _, t, hnew, ?_⟩ ⟨rfl, rfl, rfl, by simp [World.setRow], fun k hk hne => setRow_other w B k _ hne⟩
      · rw [setB_len (by rw [hby.len]; omega), hby.len]
      · rw [setB_len (by rw [hby.len]; omega), hby.len]
      · exact (Array.getElem?_eq_some_iff.1 hnew).1
      · obtain ⟨b2, o2, e2, _, hc2⟩ := hby.sby.2 (by omega)
        cases e2
        have h2 := hc2 k hk
        rw [Nat.zero_add] at h2 ⊢
        rw [cell_of_row _ _ _ _ _ _ hrow] at h2
        rw [cell_of_row _ _ _ _ _ _ hnew, at8_setB (by rw [hby.len]; omega) k (by rw [hby.len]; exact hk), List.getElem?_toArray]
        by_cases h1 : k < off
        · rw [if_neg (by omega), List.getElem?_append_left (by simp; omega), List.getElem?_take, if_pos h1, Array.getElem?_toList]
          exact h2
        · rw [List.getElem?_append_right (by simp; omega)]
          have e : (cur.toList.take off).length = off := by simp; omega
          rw [e]
          by_cases h3 : k < off + b.length
          · rw [if_pos ⟨by omega, h3⟩, List.getElem?_append_left (by simp; omega), List.getElem?_map]
            have hk3 : k - off < b.length := by omega
            rw [List.getElem?_eq_getElem hk3, at8_get hk3]
            rfl
          · rw [if_neg (by omega), List.getElem?_append_right (by simp; omega), List.getElem?_drop, List.length_map, hbl]
            rw [show off + m + (k - off - m) = k by omega, Array.getElem?_toList]
            exact h2
      · unfold World.frozen?
        rw [hnew]
        simp
      · have : (cur.toList.take off ++ (b.map bv ++ cur.toList.drop (off + m))).toArray.size = cur.size := by rw [List.size_toArray]; exact hcs
        omega
end Go.Proofs.YtlhfjaagkgengaaGreat
namespace Go.Proofs.YtlhfjaagkgengaaGreat
open Go.RowKit Go.Maps
set_option linter.unusedVariables false
set_option linter.unusedSimpArgs false

def WrPost {σ : Type} {K : SnkF σ} {M : Snk K} (P : PSnk K) (w : World) (d : PD) (t : PSt σ) (id off : Int) (b : Bytes) (e : Ending) (w' : World) : Prop :=
  ∃ t' er, e = .returned (.int .i64 er) ∧ Stp M P w w' d t t' ∧ Num t t' ∧
    ((er = 0 ∧ Ev P d.z 1 (· = id) t t' ∧ inB d.z off b.length = true ∧ ∃ x x' L, t.pm id = some x ∧ cont (P.rd t.s) d.z x = some L ∧ L.length = d.z ∧ t'.pm id = some x' ∧ x'.X = x.X ∧ x'.uses = x.uses ∧ cont (P.rd t'.s) d.z x' = some (setB L off.toNat b)) ∨
     (Ev P d.z 1 none9 t t' ∧ ((er = 2 ∧ t.pm id = none) ∨ (er = 1 ∧ inB d.z off b.length = false ∧ t.pm id ≠ none) ∨ (inB d.z off b.length = true ∧ ∃ x, t.pm id = some x ∧ ((er = P.ez ∧ P.room t.s = 0) ∨ (er = 20 ∧ cont (P.rd t.s) d.z x = none))))))
section
variable {σ : Type} {K : SnkF σ} {P : PSnk K} {t t1 t2 : PSt σ} {z k1 k2 : Nat} {E : Int → Prop}
/-- A step behind which all pages are as they were. -/
theorem Ev.trans' (h : Ev P z k1 E t t1) (g : Ev P z k2 none9 t1 t2) (hs : t2.s = t1.s) : Ev P z (k1 + k2) E t t2 := by
  refine ⟨fun i he hi => g.no i id (h.no i he hi), fun i x he hx => ?_, h.sub.trans g.sub, by have := h.cnt; have := g.cnt; omega, fun hp => ?_, fun hr => g.room (h.room hr), fun n hn => g.rdy n (h.rdy _ (by rw [show n + k2 + k1 = n + (k1 + k2) by omega]; exact hn))⟩
  · obtain ⟨x1, e1, e2, e3, e4, e5, e6⟩ := h.pg i x he hx
    obtain ⟨x2, f1, f2, f3, f4, f5, f6⟩ := g.pg i x1 id e1
    exact ⟨x2, f1, f2.trans e2, f3.trans e3, f4.trans e4, fun hp => ⟨(f5 (e5 hp).1).1, (f5 (e5 hp).1).2.trans (e5 hp).2⟩, fun L hL => f6 L (e6 L hL)⟩
  · rw [hs, h.keep hp]
end
section
variable {σ : Type} {K : SnkF σ} {M : Snk K} {P : PSnk K} {w w' w1 w2 w3 w4 w5 : World} {d : PD} {t t' t1 t2 : PSt σ} {id : Int} {x : Pg} {j : Nat}
/-- Other bytes are laid into a page that is in memory. -/
theorem wr_done (hK : K.Good) (hi : PI P d t1) (h1 : PgrAt M w1 d t1) {B c : Nat} {L L' : Bytes} (hx : t1.pm id = some { x with bb := some (B, c, L) }) (hby : ByAt w2 d.z B c L') (ho : Off (· = B) w1 w2) :
    Stp M P w1 ((w2.setCell ⟨x.X, 3, none⟩ (.bool false)).setCell ⟨x.X, 4, none⟩ (.bool false)) d t1 { t1 with pm := updP t1.pm id (some { x with bb := some (B, c, L'), put := false, zero := false }) } ∧
      Ev P d.z 0 (· = id) t1 { t1 with pm := updP t1.pm id (some { x with bb := some (B, c, L'), put := false, zero := false }) } := by
  obtain ⟨hz, _⟩ := h1.zs
  have hpg := h1.pg id _ hx
  have hXB : B ≠ x.X := hpg.self hz rfl
  have hpg2 : PgAt w2 d.z { x with bb := some (B, c, L') } := by
    have hX : x.X < w1.heap.size := hpg.lt
    have hne : ¬ x.X = B := fun e => hXB e.symm
    have hl : L'.length = L.length := by rw [hby.len, (hpg.bs B c L rfl).len]
    exact ⟨((ho.cell (p := ⟨x.X, 0, none⟩) hX hne).trans hpg.c0).trans (by unfold Pg.bv; simp only; rw [hl]), (ho.cell (p := ⟨x.X, 1, none⟩) hX hne).trans hpg.c1, (ho.cell (p := ⟨x.X, 2, none⟩) hX hne).trans hpg.c2, (ho.cell (p := ⟨x.X, 3, none⟩) hX hne).trans hpg.c3, (ho.cell (p := ⟨x.X, 4, none⟩) hX hne).trans hpg.c4, (ho.cell (p := ⟨x.X, 5, none⟩) hX hne).trans hpg.c5,
      fun k => (ho.frozen (p := ⟨x.X, k, none⟩) hX hne).trans (hpg.fz k), fun B' c' L'' e => by cases e; exact hby⟩
  have hp3 := hpg2.set (k := 3) (v := .bool false) (x' := { x with bb := some (B, c, L'), put := false }) rfl rfl rfl rfl rfl rfl rfl (fun B c L e => hpg2.bsX hz e)
  have hp4 := hp3.set (k := 4) (v := .bool false) (x' := { x with bb := some (B, c, L'), put := false, zero := false }) rfl rfl rfl rfl rfl rfl rfl (fun B c L e => hp3.bsX hz e)
  have hoX : Off ({ x with bb := some (B, c, L) } : Pg).blk w1 ((w2.setCell ⟨x.X, 3, none⟩ (.bool false)).setCell ⟨x.X, 4, none⟩ (.bool false)) :=
    ((ho.mono (S' := ({ x with bb := some (B, c, L) } : Pg).blk) (fun k e => Or.inr ⟨c, L, by rw [e]⟩)).setCell (p := ⟨x.X, 3, none⟩) (.inl rfl) _).setCell (p := ⟨x.X, 4, none⟩) (.inl rfl) _
  have h4 := h1.setPage (id := id) (x' := { x with bb := some (B, c, L'), put := false, zero := false }) hx rfl (fun k hk => by
    rcases hk with e | ⟨c1, L1, e⟩
    · exact .inl (.inl e)
    · cases e; exact .inl (.inr ⟨c, L, rfl⟩)) hoX hp4
  have hpm : ∀ i y, updP t1.pm id (some { x with bb := some (B, c, L'), put := false, zero := false }) i = some y → (i = id ∧ y = { x with bb := some (B, c, L'), put := false, zero := false }) ∨ (i ≠ id ∧ t1.pm i = some y) := fun i y e => by
    unfold updP at e
    split at e
    · rename_i h; exact .inl ⟨h, (Option.some.inj e).symm⟩
    · rename_i h; exact .inr ⟨h, e⟩
  refine ⟨⟨h4, ?_, ?_, ?_⟩, ?_⟩
  · refine ⟨hi.inn, hi.kv, hi.pz, fun i k hik => ?_, fun i y hy hbb => ?_, fun i y hy hpp => ?_, fun i y B c L hy hzz hbb => ?_, fun i y hy h1 h2 => ?_, fun i y hy => ?_, hi.hol, hi.nx1⟩
    · obtain ⟨y, f1, f2⟩ := hi.res i k hik
      by_cases hid : i = id
      · rw [hid]; exact ⟨_, updP_same _ _ _, by simp⟩
      · exact ⟨y, (updP_ne _ _ hid).trans f1, f2⟩
    · rcases hpm i y hy with ⟨rfl, rfl⟩ | ⟨e, f⟩
      · exact hi.has i _ hx (by simp)
      · exact hi.has i y f hbb
    · rcases hpm i y hy with ⟨rfl, rfl⟩ | ⟨e, f⟩
      · cases hpp
      · exact hi.put i y f hpp
    · rcases hpm i y hy with ⟨rfl, rfl⟩ | ⟨e, f⟩
      · cases hzz
      · exact hi.zer i y B c L f hzz hbb
    · rcases hpm i y hy with ⟨rfl, rfl⟩ | ⟨e, f⟩
      · simp
      · exact hi.dty i y f h1 h2
    · rcases hpm i y hy with ⟨rfl, rfl⟩ | ⟨e, f⟩
      · exact hi.ids i _ hx
      · exact hi.ids i y f
  · exact hoX.mono fun k hk => .inl (.inr (.inr (.inr (.inr (.inr ⟨id, _, hx, hk⟩)))))
  · intro k hk
    rcases hk with hk | hk
    · rcases own_upd hx hk with e | e
      · exact .inl (.inl e)
      · refine .inl (.inl (.inr (.inr (.inr (.inr (.inr ⟨id, _, hx, ?_⟩))))))
        rcases e with e | ⟨c1, L1, e⟩
        · exact .inl e
        · cases e; exact .inr ⟨c, L, rfl⟩
    · exact .inl (.inr hk)
  · exact ⟨fun i he hn => (updP_ne _ _ he).trans hn, fun i y he hy => ⟨y, (updP_ne _ _ he).trans hy, rfl, rfl, rfl, fun h => ⟨h, rfl⟩, fun L hL => hL⟩, SubR.refl _, Nat.le_refl _, fun _ => rfl, fun h => h, fun n h => h⟩
theorem wr_no (hK : K.Good) (h : PgrAt M w d t) (hi : PI P d t) {off er : Int} {b : Bytes} (hc : (er = 2 ∧ t.pm id = none) ∨ (er = 1 ∧ inB d.z off b.length = false ∧ t.pm id ≠ none)) : WrPost (M := M) P w d t id off b (.returned (.int .i64 er)) w :=
  ⟨t, er, rfl, Stp.refl h hi, Num.refl t, .inr ⟨Ev.refl hK t, hc.elim .inl (fun h => .inr (.inl h))⟩⟩
theorem wr_same {off : Nat} {b : Bytes} {B c : Nat} {L : Bytes} (S : Stp M P w w1 d t t1) (E : Ev P d.z 1 none9 t t1) (N : Num t t1) (hb : inB d.z (off : Int) b.length = true) (hx : t.pm id = some x) (hc : cont (P.rd t.s) d.z x = some L) (hl : L.length = d.z) (hx1 : t1.pm id = some { x with bb := some (B, c, L) }) (he : setB L off b = L) :
    WrPost (M := M) P w d t id (off : Int) b (.returned (.int .i64 0)) w1 :=
  ⟨t1, 0, rfl, S, N, .inl ⟨rfl, E.wide (fun _ e => e.elim), hb, x, _, L, hx, hc, hl, hx1, rfl, rfl, by show cont _ _ _ = some (setB L off b); rw [he]; rfl⟩⟩
set_option maxRecDepth 100000 in
set_option maxHeartbeats 4000000 in
theorem write_any (hK : K.Good) (hmi : P.Miss) (h : PgrAt M w d t) (hi : PI P d t) (h0 : t.hole = none) (hid : -9223372036854775808 ≤ id ∧ id ≤ 9223372036854775807) (hnx : t.nx < 9223372036854775807) (hrd : K.Rdy t.s 1) (off : Int) {A : Option Addr} {n cb : Nat} {b : Bytes} (hS : SBy w A n b) (hn : n ≤ 2 ^ 40) (hV : VIn (fun k => ¬ Own d t k) (.slice A n cb)) :
    Calls Tryz.prog 106 #[.pointer (some ⟨d.Q, 0, none⟩), .int .i64 id, .int .i64 off, .slice A n cb] w (WrPost (M := M) P w d t id off b) := by
  have hlk := h.look hid
  rw [vis_none h0] at hlk
  have HW := Lib.hid (within_any h off (n : Int))
  have H := Lib.hid h
  have HI := Lib.hid hi
  have H0 := Lib.hid h0
  have HS := Lib.hid hS
  have HV := Lib.hid hV
  have HBL := Lib.hid hS.1
  obtain ⟨hz1, hz2⟩ := h.zs
  have q4 := h.q4
  cases hx : t.pm id with
  | none =>
    rw [hx] at hlk
    have HX := Lib.hid hx
    simp only [pgP, Option.map_none] at hlk
    clear h hi h0 hx hS hV
    go_enter Tryz.func106, Tryz.ntmps106
    go_wp2
    go_ret
    exact wr_no hK H.out HI.out (.inl ⟨rfl, HX.out⟩)
  | some x =>
    rw [hx] at hlk
    have HX := Lib.hid hx
    simp only [pgP, Option.map_some] at hlk
    have HBR := Lib.hid (bring_any hK hmi h hi hx (.inl h0) hid hnx hrd false)
    cases hb : inB d.z off (n : Int) with
    | false =>
      rw [hb] at HW
      have HB : Hid (inB d.z off b.length = false) := Lib.hid (by rw [HBL.out]; exact hb)
      clear h hi h0 hx hb HBR hS hV
      go_enter Tryz.func106, Tryz.ntmps106
      go_wp2_with fail
      refine HW.out.mono ?_
      rintro e w1 ⟨rfl, rfl⟩
      go_wp2
      go_ret
      exact wr_no hK H.out HI.out (.inr ⟨rfl, HB.out, by rw [HX.out]; simp⟩)
    | true =>
      rw [hb] at HW
      have HB : Hid (inB d.z off b.length = true) := Lib.hid (by rw [HBL.out]; exact hb)
      obtain ⟨o1, _, o3⟩ := inB_iff.1 hb
      clear h hi h0 hx hb hS hV
      go_enter Tryz.func106, Tryz.ntmps106
      go_wp2_with fail
      refine HW.out.mono ?_
      rintro e w1 ⟨rfl, rfl⟩
      go_wp2_with fail
      refine HBR.out.mono ?_
      rintro e w1 ⟨t1, er, rfl, S1, E1, N1, hcs⟩
      have S := Lib.hid S1
      have E := Lib.hid E1
      have N := Lib.hid N1
      clear S1 E1 N1 hlk q4 HW HBR
      rcases hcs with ⟨rfl, ⟨B, c, L, hx1, hc, hl⟩, j, hg⟩ | hcs
      · obtain ⟨off, rfl⟩ := Int.eq_ofNat_of_zero_le o1
        have HC := Lib.hid hc
        have HL := Lib.hid hl
        have HX1 := Lib.hid hx1
        have HG := Lib.hid hg
        have hpg := S.out.at_.pg id _ hx1
        have hby := hpg.bs B c L rfl
        have p0 := hpg.c0
        have p3 := hpg.c3
        have p4 := hpg.c4
        have f3 := hpg.fz 3
        have f4 := hpg.fz 4
        unfold Pg.bv at p0
        simp only [hl] at p0 p3 p4 f3 f4
        have hcap := hby.cap
        have HBY := Lib.hid hby
        have hon : off + n ≤ d.z := by omega
        have hS1 : SBy w1 A n b := by
          have hsl : SlB w (.slice A n n) b := ⟨A, n, n, rfl, Nat.le_refl _, HS.out⟩
          obtain ⟨A', n', c', e, _, h2⟩ := hsl.offP S.out.off (fun b' o n' c' e hp => by cases e; exact HV.out b' o _ cb rfl hp)
          cases e
          exact h2
        have HS1 := Lib.hid hS1
        clear hc hl hx1 hg hpg hby o1 o3 hS1 HS
        by_cases hcz : off = c
        · subst hcz
          obtain rfl : n = 0 := by omega
          have hb0 : b = [] := by have := HBL.out; simpa using this
          have HEQ : Hid (Calls Tryz.prog 104 #[.slice (some ⟨B, 0, none⟩) 0 0, .slice A 0 cb] w1 fun e w' => e = .returned (.bool true) ∧ w1 = w') := Lib.hid ((equal_any w1 (some ⟨B, 0, none⟩) A 0 0 0 cb [] [] (SBy.nil _ _) (SBy.nil _ _)).mono fun e w' h => ⟨h.1.trans (by simp), h.2.symm⟩)
          go_wp2_with fail
          refine HEQ.out.mono ?_
          rintro e w2 ⟨rfl, rfl⟩
          have HE : Hid (WrPost (M := M) P w d t id (off : Int) b (.returned (.int .i64 0)) w1) := Lib.hid (wr_same S.out E.out N.out HB.out HX.out HC.out HL.out HX1.out (by simp [setB, hb0]))
          clear hb0 p0 p3 p4 f3 f4 HEQ
          go_wp2
          go_ret
          exact HE.out
        · have HEQ : Hid (Calls Tryz.prog 104 #[.slice (some ⟨B, off, none⟩) n (c - off), .slice A n cb] w1 fun e w' => e = .returned (.bool (decide (secP L off n = b))) ∧ w1 = w') := Lib.hid ((equal_any w1 (some ⟨B, off, none⟩) A n (c - off) n cb _ _ (HBY.out.part hon hz1) HS1.out).mono fun e w' h => ⟨h.1, h.2.symm⟩)
          go_wp2_with fail
          refine HEQ.out.mono ?_
          rintro e w2 ⟨rfl, rfl⟩
          by_cases he : secP L off n = b
          · rw [decide_eq_true he]
            have HE : Hid (WrPost (M := M) P w d t id (off : Int) b (.returned (.int .i64 0)) w1) := Lib.hid (wr_same S.out E.out N.out HB.out HX.out HC.out HL.out HX1.out (setB_same (by rw [HL.out, HBL.out]; exact hon) (by rw [HBL.out]; exact he)))
            clear he p0 p3 p4 f3 f4 HEQ
            go_wp2
            go_ret
            exact HE.out
          · rw [decide_eq_false he]
            clear he HEQ
            go_upto_region 12 with (with_reducible refine wpList_copy_by rfl (.tmp 53) (.tmp 54) rfl rfl rfl HBY.out hz1 HS1.out hon rfl (fun _ => rfl) ?_; intro w2 hby2 ho2)
            obtain ⟨S2, E2⟩ := wr_done hK S.out.inv S.out.at_ HX1.out hby2 ho2
            have hX := (S.out.at_.pg id _ HX1.out).lt
            have hXB : ¬ x.X = B := fun e => (S.out.at_.pg id _ HX1.out).self hz1 rfl e.symm
            have p3' := (ho2.cell (p := ⟨x.X, 3, none⟩) hX hXB).trans p3
            have p4' := (ho2.cell (p := ⟨x.X, 4, none⟩) hX hXB).trans p4
            have f3' := (ho2.frozen (p := ⟨x.X, 3, none⟩) hX hXB).trans f3
            have f4' := (ho2.frozen (p := ⟨x.X, 4, none⟩) hX hXB).trans f4
            have S2' := Lib.hid S2
            have E2' := Lib.hid E2
            clear S2 E2 hby2 ho2 p0 p3 p4 f3 f4 hX
            go_upto_region 13 with (fail)
            refine wp_forget (fun V => Stp M P w1 V d t1 { t1 with pm := updP t1.pm id (some { x with bb := some (B, c, setB L off b), put := false, zero := false }) }) S2'.out ?_
            intro V S3
            have HS3 := Lib.hid S3
            have q0 := S3.at_.q0
            have HF := Lib.hid (Find_any S3.at_.pool (int_wf hid))
            unfold findV findI at HF
            rw [show ({ t1 with pm := updP t1.pm id (some { x with bb := some (B, c, setB L off b), put := false, zero := false }) } : PSt σ).g id = some j from HG.out] at HF
            simp only [Option.isSome_some] at HF
            obtain ⟨hj, hu, hkey⟩ := pi_key S3.inv (show ({ t1 with pm := updP t1.pm id (some { x with bb := some (B, c, setB L off b), put := false, zero := false }) } : PSt σ).g id = some j from HG.out)
            have HT := Lib.hid (Touch_yes S3.at_.pool j true hj hu)
            clear S3 S2' p3' p4' f3' f4' hXB hu hkey
            go_wp2_with fail
            refine HF.out.mono ?_
            rintro e w3 ⟨rfl, rfl⟩
            go_wp2_with fail
            refine HT.out.mono ?_
            rintro e w4 ⟨rfl, ⟨c5, hp5⟩, ho5⟩
            have HE := Lib.hid (stp_touch (f := { t1.F j with ref := true, dirty := (t1.F j).dirty || true }) HS3.out.inv HS3.out.at_ rfl rfl rfl hp5 ho5)
            clear hp5 ho5 HT HF q0
            go_wp2
            go_ret
            have HEV := Ev.more (k2 := 1) hK (Ev.trans' (k1 := 1 + 0) (k2 := 0) (E.out.trans E2'.out) (ev_touch (F' := putF t1.F j { t1.F j with ref := true, dirty := (t1.F j).dirty || true }) (c' := c5)) rfl) (by omega)
            exact ⟨_, 0, rfl, (S.out.trans HS3.out).trans HE.out, N.out.trans ⟨rfl, rfl, rfl⟩, .inl ⟨rfl, HEV, HB.out, x, { x with bb := some (B, c, setB L off b), put := false, zero := false }, L, HX.out, HC.out, HL.out, updP_same _ _ _, rfl, rfl, rfl⟩⟩
      · rcases hcs with ⟨rfl, hr, _⟩ | ⟨rfl, hr, _⟩
        · have HR := Lib.hid hr
          have he0 := P.ez0
          clear hr
          go_wp2
          go_ret
          exact ⟨t1, P.ez, rfl, S.out, N.out, .inr ⟨E.out, .inr (.inr ⟨HB.out, x, HX.out, .inl ⟨rfl, HR.out⟩⟩)⟩⟩
        · have HR := Lib.hid hr
          clear hr
          go_wp2
          go_ret
          exact ⟨t1, 20, rfl, S.out, N.out, .inr ⟨E.out, .inr (.inr ⟨HB.out, x, HX.out, .inr ⟨rfl, HR.out⟩⟩)⟩⟩
end
end Go.Proofs.YtlhfjaagkgengaaGreat
namespace Go.Proofs.YtlhfjaagkgengaaGreat
open Go.RowKit Go.Maps
set_option linter.unusedVariables false
set_option linter.unusedSimpArgs false

section
variable {σ : Type} {K : SnkF σ} {M : Snk K} {P : PSnk K} {w w' w1 w2 w3 w4 w5 : World} {d : PD} {t t' t1 t2 : PSt σ} {id : Int} {x : Pg} {j : Nat} {z k1 k2 : Nat} {E : Int → Prop}
theorem Ev.trans2 (h : Ev P z k1 E t t1) (g : Ev P z k2 none9 t1 t2) (hk : (∀ i x, t.pm i = some x → x.put = true) → P.cnt t2.s = P.cnt t.s) : Ev P z (k1 + k2) E t t2 := by
  refine ⟨fun i he hi => g.no i id (h.no i he hi), fun i x he hx => ?_, h.sub.trans g.sub, by have := h.cnt; have := g.cnt; omega, hk, fun hr => g.room (h.room hr), fun n hn => g.rdy n (h.rdy _ (by rw [show n + k2 + k1 = n + (k1 + k2) by omega]; exact hn))⟩
  obtain ⟨x1, e1, e2, e3, e4, e5, e6⟩ := h.pg i x he hx
  obtain ⟨x2, f1, f2, f3, f4, f5, f6⟩ := g.pg i x1 id e1
  exact ⟨x2, f1, f2.trans e2, f3.trans e3, f4.trans e4, fun hp => ⟨(f5 (e5 hp).1).1, (f5 (e5 hp).1).2.trans (e5 hp).2⟩, fun L hL => f6 L (e6 L hL)⟩
theorem pm_next (hi : PI P d t) (h0 : t.hole = none) : t.pm t.nx = none := by
  cases hx : t.pm t.nx with
  | none => rfl
  | some x =>
    have := (hi.ids _ x hx).2.2 rfl
    rw [h0] at this
    cases this
theorem g_next (hi : PI P d t) (h0 : t.hole = none) : t.g t.nx = none := by
  cases hg : t.g t.nx with
  | none => rfl
  | some j =>
    obtain ⟨x, h1, _⟩ := hi.res _ j hg
    rw [pm_next hi h0] at h1
    cases h1
theorem pi_virt (hi : PI P d t) (h0 : t.hole = none) (hbb : x.bb = none) (hp : x.put = true → x.zero = true → P.rd t.s x.at_ = some (zeros d.z)) (hz : x.put = true ∨ x.zero = true) : PI P d { t with pm := updP t.pm t.nx (some x), hole := some (t.nx : Int) } := by
  have hn := pm_next hi h0
  have hpm : ∀ i y, updP t.pm t.nx (some x) i = some y → (i = t.nx ∧ y = x) ∨ (i ≠ t.nx ∧ t.pm i = some y) := fun i y e => by
    unfold updP at e
    split at e
    · rename_i h; exact .inl ⟨h, (Option.some.inj e).symm⟩
    · rename_i h; exact .inr ⟨h, e⟩
  refine ⟨hi.inn, hi.kv, hi.pz, fun i k hik => ?_, fun i y hy hb => ?_, fun i y hy hpp => ?_, fun i y B c L hy hzz hb => ?_, fun i y hy h1 h2 => ?_, fun i y hy => ?_, fun i e => (Option.some.inj e).symm, hi.nx1⟩
  · obtain ⟨y, f1, f2⟩ := hi.res i k hik
    exact ⟨y, (updP_ne _ _ (fun e => by rw [e, hn] at f1; cases f1)).trans f1, f2⟩
  · rcases hpm i y hy with ⟨rfl, rfl⟩ | ⟨e, f⟩
    · exact absurd hbb hb
    · exact hi.has i y f hb
  · rcases hpm i y hy with ⟨rfl, rfl⟩ | ⟨e, f⟩
    · exact ⟨(fun B c L e => by rw [hbb] at e; cases e), fun hzz => hp hpp hzz⟩
    · exact hi.put i y f hpp
  · rcases hpm i y hy with ⟨rfl, rfl⟩ | ⟨e, f⟩
    · rw [hbb] at hb; cases hb
    · exact hi.zer i y B c L f hzz hb
  · rcases hpm i y hy with ⟨rfl, rfl⟩ | ⟨e, f⟩
    · rcases hz with hz | hz
      · rw [hz] at h1; cases h1
      · rw [hz] at h2; cases h2
    · exact hi.dty i y f h1 h2
  · rcases hpm i y hy with ⟨rfl, rfl⟩ | ⟨e, f⟩
    · exact ⟨by have := hi.nx1; omega, Int.le_refl _, fun _ => rfl⟩
    · obtain ⟨g1, g2, g3⟩ := hi.ids i y f
      exact ⟨g1, g2, fun e2 => by rw [e2]⟩
theorem pi_add (hi : PI P d t) {c' : Nat} : PI P d { t with nx := t.nx + 1, hole := none, cm := c' } := by
  refine ⟨hi.inn, hi.kv, hi.pz, hi.res, hi.has, hi.put, hi.zer, hi.dty, fun i y hy => ?_, (fun i e => by cases e), Nat.le_add_left _ _⟩
  obtain ⟨g1, g2, g3⟩ := hi.ids i y hy
  refine ⟨g1, by show i ≤ ((t.nx + 1 : Nat) : Int); omega, fun e => ?_⟩
  have e' : i = ((t.nx + 1 : Nat) : Int) := e
  omega
/-- A new page is put in its place. -/
def AdPost (M : Snk K) (P : PSnk K) (w : World) (d : PD) (t : PSt σ) (e : Ending) (w' : World) : Prop :=
  ∃ c' : Nat, e = .returned (.int .i64 (t.nx : Nat)) ∧ Stp M P w w' d t { t with nx := t.nx + 1, hole := none, cm := t.cm + 1 }
set_option maxRecDepth 100000 in
set_option maxHeartbeats 1000000 in
theorem add_any (h : PgrAt M w d t) (hi : PI P d t) (hh : t.hole = some (t.nx : Int)) (hx : t.pm t.nx = some x) (hn : t.nx < 4611686018427387904) :
    Calls Tryz.prog 146 #[.pointer (some ⟨d.Q, 0, none⟩), .pointer (some ⟨x.X, 0, none⟩)] w (AdPost M P w d t) := by
  obtain ⟨h2, ho2⟩ := h.setNx (t.nx + 1)
  have hkey : keyOf Tryz.prog 3 (.int .i64 (t.nx : Nat)) = some _ := keyOf_int_mk Tryz.underlying3 (int_wf (k := (t.nx : Int)) (by omega))
  obtain ⟨w3, hrun, hm, ho3⟩ := MapIs.put h2.mp intKeyed Tryz.underlying142 (val := .pointer (some ⟨x.X, 0, none⟩)) hkey
  have hvis : visP t.pm t.hole t.nx = none := by unfold visP; rw [if_pos hh.symm]
  have hm2 : MapIs Tryz.prog 3 w3 d.Mm (pgF (visP t.pm none)) (t.cm + 1) := by
    have e1 : (pgF (visP t.pm t.hole) (.int .i64 (t.nx : Nat))).isSome = false := by rw [pgF_at, hvis]; rfl
    have e2 : putK (pgF (visP t.pm t.hole)) (.int .i64 (t.nx : Nat)) (.pointer (some ⟨x.X, 0, none⟩)) = pgF (visP t.pm none) := by
      rw [pgF_put]
      refine pgF_congr fun k => ?_
      unfold updP visP
      rw [hh, if_neg (show ¬ some k = none from fun e => by cases e)]
      by_cases hk : k = t.nx
      · rw [if_pos hk, hk, hx]
      · rw [if_neg hk, if_neg (fun e => hk (Option.some.inj e))]
    have hm' := hm
    simp only at hm'
    rw [e1, e2] at hm'
    exact hm'
  have h3 := h2.setMap ho3 hm2 (fun k x => id)
  have HE : Hid (AdPost M P w d t (.returned (.int .i64 (t.nx : Nat))) w3) := Lib.hid ⟨0, rfl, h3, pi_add hi, (ho2.mono (S' := Own d t) (fun k e => by rw [e]; exact .inl (.inl rfl))).trans (ho3.mono fun k e => by rw [e]; exact .inl (.inr (.inr (.inr (.inr (.inl rfl)))))), fun k hk => .inl hk⟩
  have q5 := h.q5
  have q4 := h.q4
  have f5 := h.qz 5
  have lQ := h.ltQ
  have hw1 : IntKind.i64.wrap ((t.nx : Int) + 1) = (t.nx : Int) + 1 := IntWalk.i64_in _ (by omega)
  have hnx : ((t.nx + 1 : Nat) : Int) = (t.nx : Int) + 1 := by omega
  rw [hnx] at hrun
  clear h hi hh hx h2 ho2 hm hm2 h3 ho3 hkey hvis hnx
  go_enter Tryz.func146, Tryz.ntmps146
  go_wp2
  go_ret
  exact HE.out
end
end Go.Proofs.YtlhfjaagkgengaaGreat
