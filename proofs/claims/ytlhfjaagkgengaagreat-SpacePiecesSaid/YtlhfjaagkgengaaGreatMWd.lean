/- SpacePieces: what is stored in pieces; two pagers beside each other. SpacePieces: what its loop keeps. -/
import Derived.Test.YtlhfjaagkgengaaGreatMWc
namespace Go.Proofs.YtlhfjaagkgengaaGreat
open Go.RowKit Go.Maps
set_option linter.unusedVariables false
set_option linter.unusedSimpArgs false
/-- Of b the first n bytes are stored, from a on, and nothing else. -/
structure Pc (s : Spc) (C : Cu) (a n : Nat) (b : Bytes) : Prop where
  flat : ∀ i, flatF s.D.pg (s.mem C) i = if a ≤ i ∧ i < a + n then b.getD (i - a) 0 else 0
  dom : ∀ i, (s.m i).isSome = true ↔ ∃ j : Nat, a ≤ j ∧ j < a + n ∧ ((j / s.D.pg : Nat) : Int) = i
theorem flat_zero (z : Nat) (C : Cu) (i : Nat) : flatF z (memF z C fun _ => none) i = 0 := by
  unfold flatF memF zeros
  simp only
  rw [List.getD_eq_getElem?_getD, List.getElem?_replicate]
  split <;> rfl
theorem Pc.zero {s : Spc} (C : Cu) (hm : s.m = fun _ => none) (a : Nat) (b : Bytes) : Pc s C a 0 b := by
  refine ⟨fun i => ?_, fun i => ?_⟩
  · unfold Spc.mem
    rw [hm, flat_zero, if_neg (by omega)]
  · rw [hm]
    constructor
    · intro h; cases h
    · rintro ⟨j, h1, h2, _⟩; omega
theorem Pc.step {s : Spc} {C C' : Cu} {a n k : Nat} {b : Bytes} {m' : Pm} {n' N : Nat} (h : Pc s C a n b) (hk : n + k ≤ b.length) (hs : StW s C C' m' N (a + n) ((b.drop n).take k)) : Pc { s with m := m', n := n' } C' a (n + k) b := by
  have hl : ((b.drop n).take k).length = k := by rw [List.length_take, List.length_drop]; omega
  refine ⟨fun i => ?_, fun i => ?_⟩
  · have := hs.flat i
    unfold Spc.mem
    simp only
    rw [this, hl, h.flat]
    by_cases c : a + n ≤ i ∧ i < a + n + k
    · rw [if_pos c, if_pos (by omega), getD_take (by omega), getD_drop, show n + (i - (a + n)) = i - a by omega]
    · rw [if_neg c]
      by_cases c2 : a ≤ i ∧ i < a + n
      · rw [if_pos c2, if_pos (by omega)]
      · rw [if_neg c2, if_neg (by omega)]
  · have := hs.dom i
    simp only
    rw [this, hl, h.dom]
    constructor
    · rintro (⟨j, h1, h2, h3⟩ | ⟨j, h1, h2, h3⟩)
      · exact ⟨j, h1, by omega, h3⟩
      · exact ⟨j, by omega, by omega, h3⟩
    · rintro ⟨j, h1, h2, h3⟩
      by_cases c : j < a + n
      · exact .inl ⟨j, h1, c, h3⟩
      · exact .inr ⟨j, by omega, by omega, h3⟩
theorem Pc.load {s : Spc} {C : Cu} {a n i k : Nat} {b : Bytes} (h : Pc s C a n b) (hn : n ≤ b.length) (hk : i + k ≤ n) : rngF (flatF s.D.pg (s.mem C)) (a + i) k = (b.drop i).take k :=
  rngF_take (by omega) fun j hj => by rw [h.flat, if_pos (by omega), show a + i + j - a = i + j by omega]
theorem Pc.same {s s' : Spc} {C C' : Cu} {a n : Nat} {b : Bytes} (h : Pc s C a n b) (h' : Pc s' C' a n b) (x k : Nat) : rngF (flatF s.D.pg (s.mem C)) x k = rngF (flatF s'.D.pg (s'.mem C')) x k :=
  rngF_congr fun i _ _ => by rw [h.flat, h'.flat]
theorem Pc.cnt {s : Spc} {C : Cu} {a n N : Nat} {b : Bytes} (h : Pc s C a n b) {k : TypeId} {w : World} {g c : Nat} (hm : MapIs Tryz.prog k w g (spF s.m) c) (hz : 0 < s.D.pg) (hn : a + n ≤ N * s.D.pg) : c ≤ N := by
  obtain ⟨ks, h1, h2, h3⟩ := ks_of hm
  have := h1.length_le_of_subset (l₂ := (List.range N).map fun i : Nat => (i : Int)) fun i hi => by
    obtain ⟨j, j1, j2, j3⟩ := (h.dom i).1 ((h2 i).1 hi)
    rw [List.mem_map]
    refine ⟨j / s.D.pg, ?_, j3⟩
    rw [List.mem_range]
    exact (Nat.div_lt_iff_lt_mul hz).2 (by omega)
  rw [List.length_map, List.length_range, h3] at this
  exact this
theorem Pc.cnt_same {s s' : Spc} {C C' : Cu} {a n : Nat} {b : Bytes} (h : Pc s C a n b) (h' : Pc s' C' a n b) (hz : s.D.pg = s'.D.pg) {k : TypeId} {w w' : World} {g g' c c' : Nat} (hm : MapIs Tryz.prog k w g (spF s.m) c) (hm' : MapIs Tryz.prog k w' g' (spF s'.m) c') : c = c' :=
  Go.Proofs.YtlhfjaagkgengaaGreat.cnt_same hm hm' fun i => by rw [h.dom, h'.dom, hz]
section
variable {S1 S2 : Nat} {w0 w w' w1 w2 : World} {d1 d2 : PD} {t1 t2 t1' t2' : PSt ShS} {C1 C2 C1' C2' : Cu} {k1 k2 k1' k2' : Nat} {l1 l2 l1' l2' : List Spc}
/-- Two pagers beside each other. -/
structure LP (S1 S2 : Nat) (w0 w : World) (d1 d2 : PD) (t1 t2 : PSt ShS) (C1 C2 : Cu) (k1 k2 : Nat) (l1 l2 : List Spc) : Prop where
  l : LW S1 w0 w d1 t1 C1 k1 l1
  r : LW S2 w0 w d2 t2 C2 k2 l2
  dj : ∀ q, swO d1 t1 l1 q → ¬ swO d2 t2 l2 q
theorem LP.left (h : LP S1 S2 w0 w d1 d2 t1 t2 C1 C2 k1 k2 l1 l2) (hs : LW S1 w0 w' d1 t1' C1' k1' l1') (hn : SwN shP w w' d1 t1 t1' l1 l1') : LP S1 S2 w0 w' d1 d2 t1' t2 C1' C2 k1' k2 l1' l2 :=
  ⟨hs, h.r.off hn.off h.dj h.l.own, fun q hq e => by rcases hn.own q hq with e2 | e2; exact h.dj q e2 e; have := h.r.sw.lt e; omega⟩
theorem LP.right (h : LP S1 S2 w0 w d1 d2 t1 t2 C1 C2 k1 k2 l1 l2) (hs : LW S2 w0 w' d2 t2' C2' k2' l2') (hn : SwN shP w w' d2 t2 t2' l2 l2') : LP S1 S2 w0 w' d1 d2 t1 t2' C1 C2' k1 k2' l1 l2' :=
  ⟨h.l.off hn.off (fun q hq e => h.dj q e hq) h.r.own, hs, fun q hq e => by rcases hn.own q e with e2 | e2; exact h.dj q hq e2; have := h.l.sw.lt hq; omega⟩
theorem LP.up (h : LP S1 S2 w0 w d1 d2 t1 t2 C1 C2 k1 k2 l1 l2) (hb : Below w.heap.size w w') : LP S1 S2 w0 w' d1 d2 t1 t2 C1 C2 k1 k2 l1 l2 := ⟨h.l.up hb, h.r.up hb, h.dj⟩
theorem LP.less (h : LP S1 S2 w0 w d1 d2 t1 t2 C1 C2 k1 k2 l1 l2) (a1 : k1' ≤ k1) (a2 : k2' ≤ k2) : LP S1 S2 w0 w d1 d2 t1 t2 C1 C2 k1' k2' l1 l2 := ⟨h.l.less a1, h.r.less a2, h.dj⟩
theorem LW.base {S : Nat} {V w0 w : World} {d : PD} {t : PSt ShS} {C : Cu} {k : Nat} {l : List Spc} (h : LW S V w d t C k l) (hb : Below w0.heap.size w0 V) : LW S w0 w d t C k l :=
  ⟨h.sw, hb.trans (h.bel.mono hb.size), fun q hq => by have := h.own q hq; have := hb.size; omega, h.rm⟩
/-- A second pager, made just now. -/
theorem LP.mk2 (h1 : LW S1 w0 w d1 t1 C1 k1 l1) (h2 : LW S2 w w' d2 t2 C2 k2 l2) : LP S1 S2 w0 w' d1 d2 t1 t2 C1 C2 k1 k2 l1 l2 :=
  ⟨h1.up h2.bel, h2.base h1.bel, fun q hq e => by have := h1.sw.lt hq; have := h2.own q e; omega⟩
end
end Go.Proofs.YtlhfjaagkgengaaGreat
namespace Go.Proofs.YtlhfjaagkgengaaGreat
open Go.RowKit Go.Maps
set_option linter.unusedVariables false
set_option linter.unusedSimpArgs false
/-- The loop: the first space has all, the second the first q bytes. -/
structure PcR (S1 S2 : Nat) (wa wr : World) (d1 d2 : PD) (t1 t2 : PSt ShS) (C1 C2 : Cu) (K1 K2 : Nat) (s1 s2 : Spc) (X1 X2 z N a n0 q : Nat) (b0 : Bytes) : Prop where
  lp : LP S1 S2 wa wr d1 d2 t1 t2 C1 C2 K1 K2 [s1] [s2]
  p1 : Pc s1 C1 a n0 b0
  p2 : Pc s2 C2 a q b0
  x1 : s1.D.X = X1 ∧ s1.D.pg = z ∧ s1.D.ps = N ∧ s1.L = [⟨0, 0 + (N : Nat), 3⟩]
  x2 : s2.D.X = X2 ∧ s2.D.pg = z ∧ s2.D.ps = N ∧ s2.L = [⟨0, 0 + (N : Nat), 3⟩]
  b0n : b0.length = n0
section
variable {S1 S2 : Nat} {wa wr w w' : World} {d1 d2 : PD} {t1 t2 : PSt ShS} {C1 C2 : Cu} {K1 K2 K1' K2' : Nat} {s1 s2 : Spc} {X1 X2 z N a n0 q q' k A : Nat} {b0 : Bytes}
theorem PcR.up (h : PcR S1 S2 wa w d1 d2 t1 t2 C1 C2 K1 K2 s1 s2 X1 X2 z N a n0 q b0) (hb : Below w.heap.size w w') : PcR S1 S2 wa w' d1 d2 t1 t2 C1 C2 K1 K2 s1 s2 X1 X2 z N a n0 q b0 := ⟨h.lp.up hb, h.p1, h.p2, h.x1, h.x2, h.b0n⟩
theorem PcR.less (h : PcR S1 S2 wa w d1 d2 t1 t2 C1 C2 K1 K2 s1 s2 X1 X2 z N a n0 q b0) (h1 : K1' ≤ K1) (h2 : K2' ≤ K2) : PcR S1 S2 wa w d1 d2 t1 t2 C1 C2 K1' K2' s1 s2 X1 X2 z N a n0 q b0 := ⟨h.lp.less h1 h2, h.p1, h.p2, h.x1, h.x2, h.b0n⟩
theorem chk_all {s : Spc} (hD : s.D.Ok) (hx : s.D.pg = z ∧ s.D.ps = N ∧ s.L = [⟨0, 0 + (N : Nat), 3⟩]) (hN : N * z ≤ 102400) {x k : Nat} (hk : x + k ≤ N * z) {ways : Int} (hw : andI 3 ways = ways) : checkF s.D s.L (x : Nat) (k : Nat) ways = 0 := by
  obtain ⟨e1, e2, e3⟩ := hx
  rw [e3]
  have hm : ((N * z : Nat) : Int) = (N : Int) * (z : Int) := by simp
  exact check_one hD (Int.le_refl _) (by rw [e2]; omega) (by rw [Int.zero_mul]; omega) (by rw [e1, Int.zero_add]; omega) (by omega) hw
/-- A piece is stored. -/
theorem PcR.sto (h : PcR S1 S2 wa w d1 d2 t1 t2 C1 C2 K1 (K2 + 2 * k) s1 s2 X1 X2 z N a n0 q b0) (hN : N * z ≤ 102400) (ha : a + n0 ≤ N * z) (hk : q + k ≤ n0) {g o cb : Nat} (hB : SBy w (some ⟨g, o, none⟩) n0 b0) (hg : g < wa.heap.size) (hkc : k ≤ cb) {v : Int} (hv : v = ((a + q : Nat) : Int)) :
    Calls Tryz.prog 17 #[.pointer (some ⟨X2, 0, none⟩), .int .i64 v, .slice (some ⟨g, o + q, none⟩) k cb] w fun e w' =>
      e = .returned (.int .i64 0) ∧ ∃ t2' C2' s2', PcR S1 S2 wa w' d1 d2 t1 t2' C1 C2' K1 K2 s1 s2' X1 X2 z N a n0 (q + k) b0 := by
  have hn := h.b0n
  have hpart : SBy w (some ⟨g, o + q, none⟩) k ((b0.drop q).take k) := by
    have := hB.part q (q + k) (by omega) (by omega)
    rw [show q + k - q = k by omega] at this
    exact this
  have hlk : ((b0.drop q).take k).length = k := by rw [List.length_take, List.length_drop]; omega
  have hx2 := h.x2
  have hr := h.lp.r
  have hst := LW.store (k := K2) (bs := (b0.drop q).take k) (bc := cb) (h := by rw [hlk]; exact hr) (a + q) hpart hkc (by omega) (fun b' o' n' c' e _ => by
    cases e
    have hz := h.lp.l.bel.size
    exact ⟨by omega, fun e => by have := hr.own _ e; omega⟩) (by rw [hlk]; exact chk_all (hr.sw.ss s2 List.mem_cons_self).ok hx2.2 hN (by omega) (by decide))
  rw [hx2.1, ← hv] at hst
  refine hst.mono ?_
  rintro e w' ⟨t', C', m', n', rfl, h1, h2, _, h3⟩
  exact ⟨rfl, t', C', { s2 with m := m', n := n' }, h.lp.right h1 h2, h.p1, h.p2.step (by omega) h3, h.x1, hx2, hn⟩
/-- A piece is loaded from the first. -/
theorem PcR.ld (h : PcR S1 S2 wa w d1 d2 t1 t2 C1 C2 (K1 + k) K2 s1 s2 X1 X2 z N a n0 q' b0) (hN : N * z ≤ 102400) (ha : a + n0 ≤ N * z) (hk : q + k ≤ n0) {v : Int} (hv : v = ((a + q : Nat) : Int)) :
    Calls Tryz.prog 18 #[.pointer (some ⟨X1, 0, none⟩), .int .i64 v, .int .i64 (k : Nat)] w fun e w' =>
      ∃ A' c' t1', e = .returned (.tuple #[.slice A' k c', .int .i64 0]) ∧ PcR S1 S2 wa w' d1 d2 t1' t2 C1 C2 K1 K2 s1 s2 X1 X2 z N a n0 q' b0 ∧ SBy w' A' k ((b0.drop q).take k) := by
  have hl := h.lp.l
  have hld := hl.load (k := K1) (a + q) (chk_all (hl.sw.ss s1 List.mem_cons_self).ok h.x1.2 hN (by omega) (by decide))
  rw [h.x1.1, ← hv] at hld
  refine hld.mono ?_
  rintro e w' ⟨t', A', c', rfl, h1, h2, ho, hq⟩
  rw [h.p1.load (Nat.le_of_eq h.b0n.symm) hk] at ho
  exact ⟨A', c', t', rfl, ⟨h.lp.left h1 h2, h.p1, h.p2, h.x1, h.x2, h.b0n⟩, ho.part.2.2⟩
theorem PcR.fin1 (h : PcR S1 S2 wa w d1 d2 t1 t2 C1 C2 (K1 + A) K2 s1 s2 X1 X2 z N a n0 q b0) (hA : A = N * z) (hN : N * z ≤ 102400) :
    Calls Tryz.prog 18 #[.pointer (some ⟨X1, 0, none⟩), .int .i64 0, .int .i64 (A : Nat)] w fun e w' =>
      ∃ A' c' t1', e = .returned (.tuple #[.slice A' A c', .int .i64 0]) ∧ PcR S1 S2 wa w' d1 d2 t1' t2 C1 C2 K1 K2 s1 s2 X1 X2 z N a n0 q b0 ∧ OwB w.heap.size w' (.slice A' A c') (rngF (flatF z (s1.mem C1)) 0 A) ∧ ∀ g, (Value.slice A' A c').ownBlock = some g → ¬ swO d2 t2 [s2] g := by
  have hl := h.lp.l
  have hld := hl.load (k := K1) 0 (chk_all (hl.sw.ss s1 List.mem_cons_self).ok h.x1.2 hN (by omega) (by decide))
  rw [h.x1.1] at hld
  refine hld.mono ?_
  rintro e w' ⟨t', A', c', rfl, h1, h2, ho, hq⟩
  rw [h.x1.2.1] at ho
  exact ⟨A', c', t', rfl, ⟨h.lp.left h1 h2, h.p1, h.p2, h.x1, h.x2, h.b0n⟩, ho, fun g hg e => by have := (ho.lt g hg).1; have := h.lp.r.sw.lt e; omega⟩
theorem PcR.fin2 (h : PcR S1 S2 wa w d1 d2 t1 t2 C1 C2 K1 (K2 + A) s1 s2 X1 X2 z N a n0 q b0) (hA : A = N * z) (hN : N * z ≤ 102400) (hqn : q = n0) {B : Nat} {v : Value} (hv : OwB B w v (rngF (flatF z (s1.mem C1)) 0 A)) (hvo : ∀ g, v.ownBlock = some g → ¬ swO d2 t2 [s2] g) :
    Calls Tryz.prog 18 #[.pointer (some ⟨X2, 0, none⟩), .int .i64 0, .int .i64 (A : Nat)] w fun e w' =>
      ∃ A' c' t2' L, e = .returned (.tuple #[.slice A' A c', .int .i64 0]) ∧ PcR S1 S2 wa w' d1 d2 t1 t2' C1 C2 K1 K2 s1 s2 X1 X2 z N a n0 q b0 ∧ SBy w' A' A L ∧ OwB B w' v L := by
  have hr := h.lp.r
  have hld := hr.load (k := K2) 0 (chk_all (hr.sw.ss s2 List.mem_cons_self).ok h.x2.2 hN (by omega) (by decide))
  rw [h.x2.1] at hld
  refine hld.mono ?_
  rintro e w' ⟨t', A', c', rfl, h1, h2, ho, hq⟩
  rw [h.x2.2.1] at ho
  have hsame : rngF (flatF z (s1.mem C1)) 0 A = rngF (flatF z (s2.mem C2)) 0 A := by
    have := h.p1.same (hqn ▸ h.p2) 0 A
    rw [h.x1.2.1, h.x2.2.1] at this
    exact this
  rw [← hsame] at ho
  exact ⟨A', c', t', _, rfl, ⟨h.lp.right h1 h2, h.p1, h.p2, h.x1, h.x2, h.b0n⟩, ho.part.2.2, hv.off h2.off hvo⟩
theorem PcR.cnt (h : PcR S1 S2 wa w d1 d2 t1 t2 C1 C2 K1 K2 s1 s2 X1 X2 z N a n0 q b0) (hqn : q = n0) (ha : a + n0 ≤ N * z) (hN : N ≤ 200) : ∃ n, n ≤ 200 ∧
    (∀ W, Below w.heap.size w W → Calls Tryz.prog 19 #[.pointer (some ⟨X1, 0, none⟩)] W fun e w' => ∃ B c, e = .returned (.slice B n c) ∧ Below w.heap.size w w') ∧
    (∀ W, Below w.heap.size w W → Calls Tryz.prog 19 #[.pointer (some ⟨X2, 0, none⟩)] W fun e w' => ∃ B c, e = .returned (.slice B n c) ∧ Below w.heap.size w w') := by
  have g1 := h.lp.l.sw.ss s1 List.mem_cons_self
  have g2 := h.lp.r.sw.ss s2 List.mem_cons_self
  have hz : 0 < s1.D.pg := by have := g1.ok.b4; omega
  have hc := h.p1.cnt g1.sp.mp (N := N) hz (by rw [h.x1.2.1]; exact ha)
  have hs := h.p1.cnt_same (hqn ▸ h.p2) (by rw [h.x1.2.1, h.x2.2.1]) g1.sp.mp g2.sp.mp
  refine ⟨s1.n, by omega, fun W hb => ?_, fun W hb => ?_⟩
  · rw [← h.x1.1]
    refine (slots_b (g1.sp.up hb) (by omega)).mono ?_
    rintro e w' ⟨B, cB, l, hl, he, hf⟩
    exact ⟨B, cB, he, hb.trans (hf.2.mono hb.size)⟩
  · rw [← h.x2.1, hs]
    refine (slots_b (g2.sp.up hb) (by omega)).mono ?_
    rintro e w' ⟨B, cB, l, hl, he, hf⟩
    exact ⟨B, cB, he, hb.trans (hf.2.mono hb.size)⟩
end
end Go.Proofs.YtlhfjaagkgengaaGreat
