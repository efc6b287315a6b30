/- SpacePieces, walked: to the loop. -/
import Derived.Test.YtlhfjaagkgengaaGreatMWd
namespace Go.Proofs.YtlhfjaagkgengaaGreat
open Go.RowKit Go.Maps
set_option linter.unusedVariables false
set_option linter.unusedSimpArgs false
theorem sby_v {w w' : World} {A : Option Addr} {n c : Nat} {L : Bytes} (h : SBy w A n L) (hb : Below w.heap.size w w') : SBy w' A n L := h.up hb
set_option maxRecDepth 100000 in
set_option maxHeartbeats 8000000 in
theorem pieces_good (w : World) {cf : Nat → Int} {at_ : Int} {B J : Option Addr} {nb cb nj cj : Nat} {b : Bytes} {js : List Int} (hg : GoodC cf) (h512 : cf 4 ≤ 512) (hB : SBy w B nb b) (hcb : nb ≤ cb) (hnb : nb ≤ 2000) (hJ : JAt w J js) (hjl : nj = js.length) (hnj : nj ≤ 50) (hN : cf 8 ≤ 200)
    (hat : -9223372036854775808 ≤ at_ ∧ at_ ≤ 9223372036854775807) (hjr : ∀ x ∈ js, -9223372036854775808 ≤ x ∧ x ≤ 9223372036854775807) :
    Calls Tryz.prog 3 #[cfgV cf, .int .i64 at_, .slice B nb cb, .slice J nj cj] w fun e w' => e = .returned (.bool true) ∧ Below w.heap.size w w' := by
  subst hjl
  obtain ⟨z, hz⟩ : ∃ z : Nat, cf 4 = (z : Nat) := ⟨(cf 4).toNat, by have := hg.1; omega⟩
  obtain ⟨N, hN2⟩ : ∃ N : Nat, cf 8 = (N : Nat) := ⟨(cf 8).toNat, by have := hg.2.2.2; omega⟩
  obtain ⟨rg, hrg⟩ : ∃ rg : Nat, cf 7 = (rg : Nat) := ⟨(cf 7).toNat, by have := hg.2.2.1; omega⟩
  have HG := Lib.hid hg
  have HZ := Lib.hid (And.intro hz (And.intro hN2 hrg))
  have HBB := Lib.hid hB
  have HJJ := Lib.hid hJ
  have g1 : decide ((2000 : Int) < (nb : Int)) = false := decide_eq_false (by omega)
  have g2 : decide ((50 : Int) < (js.length : Int)) = false := decide_eq_false (by omega)
  have g3 : decide ((200 : Int) < cf 8) = false := decide_eq_false (by omega)
  have HSM : Hid (∀ V, Calls Tryz.prog 13 #[cfgV cf] V fun e w' => e = .returned (.bool true) ∧ Below V.heap.size V w') := Lib.hid fun V => (small_any V cf).mono fun e w' h => ⟨by rw [h.1]; congr 2; exact @decide_eq_true _ (_) ⟨hg, h512⟩, h.2⟩
  have HPO : Hid (∀ V (held : Int), 1 ≤ held ∧ held ≤ 4096 → Calls Tryz.prog 14 #[cfgV cf, .int .i64 held] V (PoPost V (cf 4) held)) := Lib.hid fun V held hh => pagerOf_any V cf held (by have := hg.1; omega) hh
  have HHY := Lib.hid (And.intro hat hjr)
  have HNN := Lib.hid hN
  have H512 := Lib.hid h512
  clear hg hB hJ hz hN2 hrg hat hjr h512 hN
  unfold cfgV at HSM HPO ⊢
  go_enter Tryz.func3, Tryz.ntmps3
  go_wp2_with fail
  have HC : Hid (∀ W, Below (w.alloc (.cells #[.int .i64 (cf 0), .int .i64 (cf 1), .int .i64 (cf 2), .int .i64 (cf 3), .int .i64 (cf 4), .int .i64 (cf 5), .int .i64 (cf 6), .int .i64 (cf 7), .int .i64 (cf 8)] 23)).heap.size (w.alloc (.cells #[.int .i64 (cf 0), .int .i64 (cf 1), .int .i64 (cf 2), .int .i64 (cf 3), .int .i64 (cf 4), .int .i64 (cf 5), .int .i64 (cf 6), .int .i64 (cf 7), .int .i64 (cf 8)] 23)) W → _) := Lib.hid fun W hb => cfg_cells hb
  have hwa : Below w.heap.size w (w.alloc (.cells #[.int .i64 (cf 0), .int .i64 (cf 1), .int .i64 (cf 2), .int .i64 (cf 3), .int .i64 (cf 4), .int .i64 (cf 5), .int .i64 (cf 6), .int .i64 (cf 7), .int .i64 (cf 8)] 23)) := (Below.refl _ _).alloc (Nat.le_refl _) _
  generalize w.alloc (.cells #[.int .i64 (cf 0), .int .i64 (cf 1), .int .i64 (cf 2), .int .i64 (cf 3), .int .i64 (cf 4), .int .i64 (cf 5), .int .i64 (cf 6), .int .i64 (cf 7), .int .i64 (cf 8)] 23) = wa at *
  have HWA := Lib.hid hwa
  have HBB := Lib.hid (HBB.out.up hwa)
  have HJJ := Lib.hid (HJJ.out.up hwa)
  clear hwa
  refine (known16_any _).mono ?_
  rintro e w1 ⟨rfl, hb1⟩
  obtain ⟨c0, c1, c2, c3, c4, c5, c6, c7, c8⟩ := HC.out _ hb1
  have HB1 := Lib.hid hb1
  clear hb1
  go_wp2_with fail
  refine (HSM.out _).mono ?_
  rintro e w2 ⟨rfl, hb2⟩
  have HB2 := Lib.hid (HB1.out.trans (hb2.mono HB1.out.size))
  clear hb2 HB1 c0 c1 c2 c3 c4 c5 c6 c7 c8
  obtain ⟨c0, c1, c2, c3, c4, c5, c6, c7, c8⟩ := HC.out _ HB2.out
  go_wp2_with fail
  refine (HPO.out _ _ (by decide)).mono ?_
  intro e w3 hpo
  obtain ⟨S1, d1, t1, rfl, hl, hz1, hn1⟩ := lw_po hpo
  have HL := Lib.hid (hl.base HB2.out)
  have HZ1 := Lib.hid hz1
  clear hpo hl hz1 hn1 c0 c1 c2 c3 c4 c5 c6 c7 c8
  obtain ⟨c0, c1, c2, c3, c4, c5, c6, c7, c8⟩ := HC.out _ HL.out.bel
  go_wp2_with fail
  refine (HPO.out _ _ (by decide)).mono ?_
  intro e w4 hpo
  obtain ⟨S2, d2, t2, rfl, hr, hz2, hn2⟩ := lw_po hpo
  have HP := Lib.hid (LP.mk2 HL.out hr)
  have HZ2 := Lib.hid hz2
  clear hpo hr hz2 hn2 c0 c1 c2 c3 c4 c5 c6 c7 c8 HL
  obtain ⟨c0, c1, c2, c3, c4, c5, c6, c7, c8⟩ := HC.out _ HP.out.l.bel
  go_wp2_with fail
  have hDok : ∀ Q, (SpD.mk 0 0 Q cf z rg N).Ok := fun Q => by
    obtain ⟨h1, h2, h3, h4⟩ := HG.out
    obtain ⟨e1, e2, e3⟩ := HZ.out
    exact ⟨e1, e3, e2, by simp only; omega, by simp only; omega, by simp only; omega⟩
  have HAD := Lib.hid (HP.out.l.add (hDok d1.Q) (by have := HZ1.out; have := HZ.out.1; omega) (by simp))
  refine HAD.out.mono ?_
  rintro e w5 ⟨X1, M1, rfl, hl, hn⟩
  have HP := Lib.hid (HP.out.left hl hn)
  clear hl hn HAD c0 c1 c2 c3 c4 c5 c6 c7 c8
  obtain ⟨c0, c1, c2, c3, c4, c5, c6, c7, c8⟩ := HC.out _ HP.out.l.bel
  go_wp2_with fail
  have HAD := Lib.hid (HP.out.r.add (hDok d2.Q) (by have := HZ2.out; have := HZ.out.1; omega) (by simp))
  refine HAD.out.mono ?_
  rintro e w6 ⟨X2, M2, rfl, hl, hn⟩
  have HP := Lib.hid (HP.out.right hl hn)
  clear hl hn HAD c0 c1 c2 c3 c4 c5 c6 c7 c8 hDok
  obtain ⟨c0, c1, c2, c3, c4, c5, c6, c7, c8⟩ := HC.out _ HP.out.l.bel
  rw [HZ.out.2.1] at c8
  rw [HZ.out.1] at c4
  go_wp2_with fail
  have HMP := Lib.hid (HP.out.l.map1 rfl (a := 0) (n := (N : Nat)) (by omega) (by have := HG.out.2.2.2; have := HZ.out.2.1; omega) (by simp only; omega))
  refine HMP.out.mono ?_
  rintro e w7 ⟨A7, p7, rfl, hl, hn⟩
  have HP := Lib.hid (HP.out.left hl hn)
  clear hl hn HMP c0 c1 c2 c3 c4 c5 c6 c7 c8
  obtain ⟨c0, c1, c2, c3, c4, c5, c6, c7, c8⟩ := HC.out _ HP.out.l.bel
  rw [HZ.out.2.1] at c8
  rw [HZ.out.1] at c4
  go_wp2_with fail
  have HMP := Lib.hid (HP.out.r.map1 rfl (a := 0) (n := (N : Nat)) (by omega) (by have := HG.out.2.2.2; have := HZ.out.2.1; omega) (by simp only; omega))
  refine HMP.out.mono ?_
  rintro e w8 ⟨A8, p8, rfl, hl, hn⟩
  have HP := Lib.hid (HP.out.right hl hn)
  clear hl hn HMP c0 c1 c2 c3 c4 c5 c6 c7 c8
  obtain ⟨c0, c1, c2, c3, c4, c5, c6, c7, c8⟩ := HC.out _ HP.out.l.bel
  rw [HZ.out.2.1] at c8
  rw [HZ.out.1] at c4
  have hAle : N * z ≤ 102400 := by
    obtain ⟨h1, _, _, h4⟩ := HG.out
    have := HZ.out
    have g3' := of_decide_eq_false g3
    exact Nat.le_trans (Nat.mul_le_mul (show N ≤ 200 by omega) (show z ≤ 512 by have := H512.out; omega)) (by decide)
  have hmul : IntKind.i64.wrap ((N : Int) * (z : Int)) = ((N * z : Nat) : Int) := by rw [← Int.natCast_mul]; exact IntWalk.i64_in _ (by omega)
  obtain ⟨A, hA⟩ : ∃ A, A = N * z := ⟨_, rfl⟩
  rw [← hA] at hmul hAle
  have HA := Lib.hid hA
  clear hA
  go_upto_if 87 with (fail)
  clear hmul
  obtain ⟨n0, hn0⟩ : ∃ n0, n0 = min nb A := ⟨_, rfl⟩
  have hn0b : n0 ≤ 2000 ∧ n0 ≤ A ∧ n0 ≤ nb ∧ n0 ≤ cb := by omega
  have HN0 := Lib.hid hn0
  go_cut [2] from 87 to 90 (fun s2 W => s2 = .slice B n0 cb ∧ W = w8)
  case first =>
    by_cases hlt : A < nb
    · have HE := Lib.hid (show n0 = A by omega)
      have hb1 : (A : Int) < (nb : Int) := by omega
      have hb2 : (0 : Int) ≤ (A : Int) := by omega
      have hb3 : (A : Int) ≤ (cb : Int) := by omega
      clear hn0 hn0b
      go_wp2_with fail
      go_meet
      exact ⟨by first | rw [HE.out] | (rw [HE.out]; simp), rfl⟩
    · have HE := Lib.hid (show n0 = nb by omega)
      have hb1 : ¬ (A : Int) < (nb : Int) := by omega
      clear hn0 hn0b
      go_wp2_with fail
      go_meet
      exact ⟨by rw [HE.out], rfl⟩
  case rest =>
  obtain ⟨rfl, hW⟩ := hcut
  have hW2 := hW.symm
  subst hW2
  clear hW
  clear hn0
  have s1 : IntKind.i64.wrap ((A : Int) - (n0 : Int)) = ((A - n0 : Nat) : Int) := by rw [IntWalk.i64_in _ (by omega)]; omega
  have s2 : IntKind.i64.wrap (((A - n0 : Nat) : Int) + 1) = ((A - n0 + 1 : Nat) : Int) := by rw [IntWalk.i64_in _ (by omega)]; omega
  obtain ⟨V, hV⟩ : ∃ V, A - n0 + 1 = V := ⟨_, rfl⟩
  obtain ⟨U, hU⟩ : ∃ U, A - n0 = U := ⟨_, rfl⟩
  rw [hV, hU] at s2
  rw [hU] at s1
  have m0 : ¬ V = 0 := by omega
  have m0' : ¬ (V : Int) = 0 := by omega
  have m0'' : ((V : Int) == 0) = false := beq_eq_false_iff_ne.2 m0'
  obtain ⟨tm, htm⟩ : ∃ tm, at_.tmod (V : Int) = tm := ⟨_, rfl⟩
  have htb : -(V : Int) < tm ∧ tm < (V : Int) := by
    rw [← htm]
    exact ⟨Int.lt_tmod_of_pos _ (by omega), Int.tmod_lt_of_pos _ (by omega)⟩
  have v0 : IntKind.i64.wrap tm = tm := IntWalk.i64_in _ (by omega)
  obtain ⟨a, ha⟩ : ∃ a : Nat, a = tm.natAbs := ⟨_, rfl⟩
  have v1 : IntKind.i64.wrap (0 - tm) = -tm := by rw [IntWalk.i64_in _ (by omega)]; omega
  have v3 : IntKind.i64.wrap (-tm) = -tm := IntWalk.i64_in _ (by omega)
  have haA : a + n0 ≤ A := by omega
  have HAA := Lib.hid (And.intro haA hn0b)
  have HTA := Lib.hid ha
  clear hV hU haA hn0b ha htb
  go_upto_if 99 with (fail)
  go_cut [1] from 99 to 101 (fun s4 wq => s4 = .int .i64 (a : Nat) ∧ wq = w8)
  case first =>
    by_cases hlt : tm < 0
    · have HE := Lib.hid (show -tm = (a : Int) by have := HTA.out; omega)
      go_wp2_with fail
      go_meet
      have v2 : IntKind.i64.wrap (a : Int) = (a : Int) := IntWalk.i64_in _ (by have := HAA.out; omega)
      exact ⟨by first | (rw [HE.out]; done) | (rw [HE.out]; exact congrArg _ v2) | (simp; have := HE.out; omega), rfl⟩
    · have HE := Lib.hid (show tm = (a : Int) by have := HTA.out; omega)
      go_wp2_with fail
      go_meet
      exact ⟨by rw [HE.out], rfl⟩
  case rest =>
  obtain ⟨rfl, hW⟩ := hcut
  have hW2 := hW.symm
  subst hW2
  clear hW
  clear s1 s2 m0 m0' m0'' htm v0 v1 v3 g1 g2 g3
  obtain ⟨b0, hb0⟩ : ∃ b0, b.take n0 = b0 := ⟨_, rfl⟩
  have hB0 : SBy wa B n0 b0 := by rw [← hb0]; exact HBB.out.take HAA.out.2.2.2.1
  have HB0 := Lib.hid hB0
  have HWL : Hid (VIn (fun g => g < wa.heap.size) (.slice B n0 cb)) := Lib.hid fun g o n c e hp => by
    cases e
    obtain ⟨g', o', e', hlt, _⟩ := hB0.2 hp
    cases e'
    exact hlt
  clear hb0 hB0
  have hle : N * z ≤ 102400 := by rw [← HA.out]; exact hAle
  have HLE := Lib.hid (And.intro hle HA.out)
  obtain ⟨K0, hK0⟩ : ∃ K0 : Nat, K0 = 250000 := ⟨_, rfl⟩
  have HK0 := Lib.hid hK0
  clear hK0
  have HR0 : Hid (∀ w9 t1' C1' m' n', LW S1 wa w9 d1 t1' C1' (400000 : Nat) [⟨⟨X1, M1, d1.Q, cf, z, rg, N⟩, A7, p7, [⟨0, 0 + (N : Nat), 3⟩], m', n'⟩] → SwN shP w8 w9 d1 t1 t1' [⟨⟨X1, M1, d1.Q, cf, z, rg, N⟩, A7, p7, [⟨0, 0 + (N : Nat), 3⟩], fun _ => none, 0⟩] [⟨⟨X1, M1, d1.Q, cf, z, rg, N⟩, A7, p7, [⟨0, 0 + (N : Nat), 3⟩], m', n'⟩] →
      StW ⟨⟨X1, M1, d1.Q, cf, z, rg, N⟩, A7, p7, [⟨0, 0 + (N : Nat), 3⟩], fun _ => none, 0⟩ (fun _ => none) C1' m' t1.nx a b0 → ∃ s1 s2, PcR S1 S2 wa w9 d1 d2 t1' t2 C1' (fun _ => none) (K0 + (n0 - 0)) (K0 + 2 * (n0 - 0)) s1 s2 X1 X2 z N a n0 0 b0) := Lib.hid fun w9 t1' C1' m' n' h1 h2 h3 => by
    have hl := HB0.out.1
    have hn := HAA.out
    have hpc := (Pc.zero (s := ⟨⟨X1, M1, d1.Q, cf, z, rg, N⟩, A7, p7, [⟨0, 0 + (N : Nat), 3⟩], fun _ => none, 0⟩) (fun _ => none) rfl a b0).step (n' := n') (k := n0) (by omega) (by rw [Nat.add_zero, List.drop_zero, List.take_of_length_le (by omega)]; exact h3)
    rw [Nat.zero_add] at hpc
    exact ⟨_, ⟨⟨X2, M2, d2.Q, cf, z, rg, N⟩, A8, p8, [⟨0, 0 + (N : Nat), 3⟩], fun _ => none, 0⟩, (HP.out.left h1 h2).less (by have := HK0.out; omega) (by have := HK0.out; omega), hpc, Pc.zero _ rfl a b0, ⟨rfl, rfl, rfl, rfl⟩, ⟨rfl, rfl, rfl, rfl⟩, hl⟩
  have HST := Lib.hid (LW.store (k := 400000) (bs := b0) (bc := cb) (h := HP.out.l.less (by have := HB0.out.1; have := HAA.out; omega)) a (HB0.out.up HP.out.l.bel) (by have := HAA.out; omega) (by have := HAA.out; omega) (HWL.out.mono fun g hg => ⟨Nat.lt_of_lt_of_le hg HP.out.l.bel.size, fun e => by have := HP.out.l.own g e; omega⟩)
    (chk_all (HP.out.l.sw.ss _ List.mem_cons_self).ok ⟨rfl, rfl, rfl⟩ hle (by rw [HB0.out.1, ← HA.out]; exact HAA.out.1) (by decide)))
  clear hle hAle
  go_wp2_with fail
  refine HST.out.mono ?_
  rintro e w9 ⟨t1', C1', m9, n9, rfl, h1, h2, _, h3⟩
  have HR := Lib.hid (HR0.out _ _ _ _ _ h1 h2 h3)
  clear h1 h2 h3 HST HR0 HP c0 c1 c2 c3 c4 c5 c6 c7 c8
  go_wp2
  go_loopw [14, 15, 16, 17, 18] (fun vq vi vk vx ve wr => ∃ (q i : Nat) (t1 t2 : PSt ShS) (C1 C2 : Cu) (s1 s2 : Spc), q ≤ n0 ∧ i ≤ js.length + 1 ∧ (i = js.length + 1 → q = n0) ∧ vq = .int .i64 (q : Nat) ∧ vi = .int .i64 (i : Nat) ∧ PcR S1 S2 wa wr d1 d2 t1 t2 C1 C2 (K0 + (n0 - q)) (K0 + 2 * (n0 - q)) s1 s2 X1 X2 z N a n0 q b0) (fun _ vi _ _ _ _ => js.length + 1 - (intOf vi).toNat)
  case atStart =>
    obtain ⟨s1, s2, hr⟩ := HR.out
    exact ⟨0, 0, t1', t2, C1', fun _ => none, s1, s2, Nat.zero_le _, Nat.zero_le _, by omega, rfl, rfl, hr⟩
  case round =>
    obtain ⟨q, i, t1, t2, C1, C2, s1, s2, hq, hi, hiq, rfl, rfl, hr⟩ := hrel
    have HR := Lib.hid hr
    have hn2 := HAA.out
    by_cases hlt : q < n0
    · have hi2 : i ≤ js.length := by
        rcases Nat.lt_or_ge js.length i with h | h
        · have := hiq (by omega); omega
        · exact h
      have w1 : IntKind.i64.wrap ((n0 : Int) - (q : Int)) = ((n0 - q : Nat) : Int) := by rw [IntWalk.i64_in _ (by omega)]; omega
      obtain ⟨r, hr2⟩ : ∃ r, n0 - q = r := ⟨_, rfl⟩
      rw [hr2] at w1
      have HRR := Lib.hid hr2
      have HI := Lib.hid (And.intro hi2 hlt)
      have hr0 : r ≤ 2000 := by omega
      clear hr2 hi hiq hr hn2
      go_upto_if 120 with (fail)
      go_cut [16] from 120 to 131 (fun s16 W => ∃ kk : Nat, s16 = .int .i64 (kk : Nat) ∧ kk ≤ r ∧ (js.length ≤ i → kk = r) ∧ W = wr)
      case first =>
        by_cases hj : i < js.length
        · have w2 : IntKind.i64.wrap ((r : Int) + 1) = ((r + 1 : Nat) : Int) := by rw [IntWalk.i64_in _ (by omega)]; omega
          obtain ⟨x, hx⟩ : ∃ x, js[i]? = some x := ⟨_, List.getElem?_eq_getElem hj⟩
          have HX := Lib.hid hx
          obtain ⟨gj, oj, rfl, hgj, hcj⟩ := (HJJ.out.up HR.out.lp.l.bel).at_ (by omega)
          have cj1 := hcj i x hx
          obtain ⟨V, hV⟩ : ∃ V, r + 1 = V := ⟨_, rfl⟩
          rw [hV] at w2
          have m0 : ¬ V = 0 := by omega
          have m0' : ¬ (V : Int) = 0 := by omega
          have m0'' : ((V : Int) == 0) = false := beq_eq_false_iff_ne.2 m0'
          obtain ⟨tm, htm⟩ : ∃ tm, x.tmod (V : Int) = tm := ⟨_, rfl⟩
          have htb : -(V : Int) < tm ∧ tm < (V : Int) := by
            rw [← htm]
            exact ⟨Int.lt_tmod_of_pos _ (by omega), Int.tmod_lt_of_pos _ (by omega)⟩
          have v0 : IntKind.i64.wrap tm = tm := IntWalk.i64_in _ (by omega)
          have v1 : IntKind.i64.wrap (0 - tm) = -tm := by rw [IntWalk.i64_in _ (by omega)]; omega
          have v3 : IntKind.i64.wrap (-tm) = -tm := IntWalk.i64_in _ (by omega)
          obtain ⟨kk, hk⟩ : ∃ kk : Nat, kk = tm.natAbs := ⟨_, rfl⟩
          have HKK := Lib.hid (show kk ≤ r ∧ (js.length ≤ i → kk = r) from ⟨by omega, fun h => by omega⟩)
          have HK := Lib.hid hk
          clear hk htb hV hcj hx
          by_cases hlt2 : tm < 0
          · have HE := Lib.hid (show -tm = (kk : Int) by have := HK.out; omega)
            go_wp2_with fail
            go_meet
            exact ⟨kk, by first | (rw [HE.out]; done) | (simp; have := HE.out; omega), HKK.out.1, HKK.out.2, rfl⟩
          · have HE := Lib.hid (show tm = (kk : Int) by have := HK.out; omega)
            go_wp2_with fail
            go_meet
            exact ⟨kk, by rw [HE.out], HKK.out.1, HKK.out.2, rfl⟩
        · go_wp2_with fail
          go_meet
          exact ⟨r, rfl, Nat.le_refl _, fun _ => rfl, rfl⟩
      case rest =>
      obtain ⟨kk, rfl, hk1, hk2, hW⟩ := hcut
      have hW2 := hW.symm
      subst hW2
      clear hW
      obtain ⟨g, o, hBe, hgw, _⟩ := HB0.out.2 (by omega)
      subst hBe
      obtain ⟨e1, he1⟩ : ∃ e1, a + q = e1 := ⟨_, rfl⟩
      obtain ⟨e2, he2⟩ : ∃ e2, q + kk = e2 := ⟨_, rfl⟩
      have hn2 := HAA.out
      have hr2 := HRR.out
      have hA2 : A ≤ 102400 := by rw [HA.out]; exact HLE.out.1
      have w2 : IntKind.i64.wrap ((a : Int) + (q : Int)) = (e1 : Int) := by rw [IntWalk.i64_in _ (by omega)]; omega
      have w3 : IntKind.i64.wrap ((q : Int) + (kk : Int)) = (e2 : Int) := by rw [IntWalk.i64_in _ (by omega)]; omega
      have w4 : IntKind.i64.wrap ((i : Int) + 1) = ((i + 1 : Nat) : Int) := by rw [IntWalk.i64_in _ (by omega)]; omega
      have f1 : (0 : Int) ≤ (q : Int) := by omega
      have f2 : (q : Int) ≤ (e2 : Int) := by omega
      have f3 : (e2 : Int) ≤ (cb : Int) := by omega
      have f4 : q ≤ e2 := by omega
      have f5 : e2 ≤ cb := by omega
      have f6 : q < cb := by omega
      have f7 : ¬ (cb - q = 0) := by omega
      have f8 : ¬ (cb = q) := by omega
      have hek : e2 - q = kk := by omega
      have HST := Lib.hid ((HR.out.less (K1' := K0 + (n0 - q)) (K2' := K0 + 2 * (n0 - (q + kk)) + 2 * kk) (by omega) (by omega)).sto HLE.out.1 (by rw [← HA.out]; exact hn2.1) (by omega) (cb := cb - q) (HB0.out.up HR.out.lp.l.bel) hgw (by omega) (v := (e1 : Int)) (by rw [he1]))
      rw [← hek] at HST
      have HEK := Lib.hid (And.intro hek (And.intro he1 he2))
      have HGW := Lib.hid hgw
      have HKK := Lib.hid (And.intro hk1 hk2)
      have HW4 := Lib.hid w4
      clear hek he1 he2 hn2 hr2 hgw hA2 hk1 hk2 hr0 w4 w1 hlt hq
      go_wp2_with fail
      refine HST.out.mono ?_
      rintro e w10 ⟨rfl, t2', C2', s2', hr10⟩
      rw [HEK.out.1] at hr10
      have hn2 := HAA.out
      have hr2 := HRR.out
      have hkk := HKK.out.1
      have hi3 := HI.out
      have HLD := Lib.hid ((hr10.less (K1' := K0 + (n0 - (q + kk)) + kk) (by omega) (Nat.le_refl _)).ld (q := q) HLE.out.1 (by rw [← HA.out]; exact hn2.1) (by omega) (v := (e1 : Int)) (by rw [HEK.out.2.1]))
      clear hr10 HST hn2 hr2 hkk hi3
      go_wp2_with fail
      refine HLD.out.mono ?_
      rintro e w11 ⟨A', c', t1'', rfl, hr11, hs11⟩
      have HR11 := Lib.hid hr11
      have hs12 : SBy w11 (some ⟨g, o + q, none⟩) (e2 - q) ((b0.drop q).take kk) := by
        have hb := (HB0.out.up hr11.lp.l.bel).part q e2 (by have := HEK.out; omega) (by have := HEK.out; have := HRR.out; have := HAA.out; have := HKK.out.1; have := HI.out; omega)
        rw [HEK.out.1] at hb ⊢
        exact hb
      have hse := strB_eq ((b0.drop q).take kk) ((b0.drop q).take kk)
      rw [decide_eq_true rfl] at hse
      have cv1 : ∀ g : Up w11, (convert 24 9 (.slice A' kk c')).run Tryz.prog g.world = .ok (.string (strB ((b0.drop q).take kk))) g.world := fun g => (hs11.up g.h).str c'
      have cv2 : ∀ g' : Up w11, (convert 24 9 (.slice (some ⟨g, o + q, none⟩) (e2 - q) (cb - q))).run Tryz.prog g'.world = .ok (.string (strB ((b0.drop q).take kk))) g'.world := fun g' => (hs12.up g'.h).str (cb - q)
      clear hr11 hs11 hs12 HLD
      go_upto_region 33 with (fail)
      refine wp_region_up (by kernel_rfl) (by kernel_rfl) ?_
      repeat (go_big_quiet_step (fail))
      refine wpQuiet_nil ?_
      rintro _ ⟨g12, rfl⟩
      have HR12 := Lib.hid (HR11.out.up g12.h)
      generalize g12.world = w12 at *
      have w4 := HW4.out
      clear hse cv1 cv2
      go_wp2
      go_roundw
      case rel =>
        have h7 := HR12.out
        have hkk := HKK.out
        have hi3 := HI.out
        have hr2 := HRR.out
        have hek := HEK.out
        rw [hek.2.2] at h7
        exact ⟨e2, i + 1, t1'', t2', C1, C2', s1, s2', by omega, by omega, fun h => by have := hkk.2 (by omega); omega, rfl, by go_num, h7⟩
      case measure => simp [intOf]; have := HI.out; omega
    · have hqn : q = n0 := by omega
      have HQN := Lib.hid hqn
      have hA2 : A ≤ 102400 := by rw [HA.out]; exact HLE.out.1
      have HLD := Lib.hid ((hr.less (K1' := 1 + A) (K2' := 1 + A) (by have := HK0.out; omega) (by have := HK0.out; omega)).fin1 HA.out HLE.out.1)
      have hlt2 : ¬ (q : Int) < (n0 : Int) := by omega
      clear hqn hA2 hr hq hi hiq hn2
      go_wp2_with fail
      refine HLD.out.mono ?_
      rintro e w10 ⟨A1, c1, t1'', rfl, hr10, ho10, hno10⟩
      have HLD := Lib.hid (hr10.fin2 HA.out HLE.out.1 HQN.out ho10 hno10)
      clear hr10 ho10 hno10
      go_wp2_with fail
      refine HLD.out.mono ?_
      rintro e w11 ⟨A2, c2, t2'', L, rfl, hr11, hs11, ho11⟩
      have hxs := ho11.part.2.2
      have hN2 := HG.out.2.2.2
      obtain ⟨nn, hnn, hc1, hc2⟩ := hr11.cnt HQN.out (by rw [← HA.out]; exact HAA.out.1) (by have := HZ.out.2.1; have := HNN.out; omega)
      have HC1 := Lib.hid hc1
      have HC2 := Lib.hid hc2
      have HBE := Lib.hid (show ∀ W, Below w11.heap.size w11 W → Below w.heap.size w W from fun W hb => HWA.out.trans ((hr11.lp.l.bel.trans (hb.mono hr11.lp.l.bel.size)).mono HWA.out.size))
      obtain ⟨st, hst⟩ : ∃ st, strB L = st := ⟨_, rfl⟩
      have hse := strB_eq L L
      rw [decide_eq_true rfl, hst] at hse
      have HS : Hid (∀ W, Below w11.heap.size w11 W → (convert 24 9 (.slice A1 A c1)).run Tryz.prog W = .ok (.string st) W ∧ (convert 24 9 (.slice A2 A c2)).run Tryz.prog W = .ok (.string st) W) := Lib.hid fun W hb => by
        rw [← hst]
        exact ⟨(hxs.up hb).str c1, (hs11.up hb).str c2⟩
      have KS := Lib.hid (HS.out _ (Below.refl _ _))
      have HBN := Lib.hid (Below.refl w11.heap.size w11)
      clear hxs hN2 hnn hc1 hc2 hst hr11 hs11 ho11 HLD hlt hlt2
      obtain ⟨k1, k2⟩ := KS.out
      go_wp2_with (first
          | (go_at_call 19; (first | (with_reducible refine (HC1.out _ (by first | exact HBN.out | exact HBN.out.drew | exact (Below.refl _ _).drew)).mono ?_) | (with_reducible refine (HC2.out _ (by first | exact HBN.out | exact HBN.out.drew | exact (Below.refl _ _).drew)).mono ?_)); rintro e wx ⟨Bx, cx, rfl, hbx⟩; have HBN := Lib.hid hbx; clear hbx))
      all_goals
        go_ret
        exact ⟨rfl, HBE.out _ HBN.out⟩
open Classical in
set_option maxRecDepth 100000 in
set_option maxHeartbeats 4000000 in
theorem spPieces_any (w : World) {cf : Nat → Int} {at_ : Int} {B J : Option Addr} {nb cb cj : Nat} {b : Bytes} {js : List Int} (hB : SBy w B nb b) (hcb : nb ≤ cb) (hJ : JAt w J js)
    (hat : -9223372036854775808 ≤ at_ ∧ at_ ≤ 9223372036854775807) (hjr : ∀ x ∈ js, -9223372036854775808 ≤ x ∧ x ≤ 9223372036854775807) :
    Calls Tryz.prog 3 #[cfgV cf, .int .i64 at_, .slice B nb cb, .slice J js.length cj] w fun e w' => e = .returned (.bool true) ∧ Below w.heap.size w w' := by
  by_cases hall : (GoodC cf ∧ cf 4 ≤ 512) ∧ nb ≤ 2000 ∧ js.length ≤ 50 ∧ cf 8 ≤ 200
  · obtain ⟨⟨h1, h2⟩, h3, h4, h5⟩ := hall
    exact pieces_good w h1 h2 hB hcb h3 hJ rfl h4 h5 hat hjr
  · obtain ⟨sm, hsm⟩ : ∃ sm : Bool, sm = decide (GoodC cf ∧ cf 4 ≤ 512) := ⟨_, rfl⟩
    have hcs : sm = false ∨ (sm = true ∧ ((2000 : Int) < (nb : Int))) ∨ (sm = true ∧ ¬ ((2000 : Int) < (nb : Int)) ∧ ((50 : Int) < (js.length : Int))) ∨ (sm = true ∧ ¬ ((2000 : Int) < (nb : Int)) ∧ ¬ ((50 : Int) < (js.length : Int)) ∧ 200 < cf 8) := by
      by_cases hg : GoodC cf ∧ cf 4 ≤ 512
      · rw [decide_eq_true hg] at hsm
        have : ¬ (nb ≤ 2000 ∧ js.length ≤ 50 ∧ cf 8 ≤ 200) := fun h => hall ⟨hg, h⟩
        rcases Nat.lt_or_ge 2000 nb with a1 | a1
        · exact .inr (.inl ⟨hsm, by omega⟩)
        · rcases Nat.lt_or_ge 50 js.length with a2 | a2
          · exact .inr (.inr (.inl ⟨hsm, by omega, by omega⟩))
          · exact .inr (.inr (.inr ⟨hsm, by omega, by omega, by omega⟩))
      · rw [decide_eq_false hg] at hsm
        exact .inl hsm
    have HSM : Hid (∀ V, Calls Tryz.prog 13 #[cfgV cf] V fun e w' => e = .returned (.bool sm) ∧ Below V.heap.size V w') := Lib.hid fun V => (small_any V cf).mono fun e w' h => ⟨by rw [h.1, hsm], h.2⟩
    have HC : Hid (∀ W, Below (w.alloc (.cells #[.int .i64 (cf 0), .int .i64 (cf 1), .int .i64 (cf 2), .int .i64 (cf 3), .int .i64 (cf 4), .int .i64 (cf 5), .int .i64 (cf 6), .int .i64 (cf 7), .int .i64 (cf 8)] 23)).heap.size (w.alloc (.cells #[.int .i64 (cf 0), .int .i64 (cf 1), .int .i64 (cf 2), .int .i64 (cf 3), .int .i64 (cf 4), .int .i64 (cf 5), .int .i64 (cf 6), .int .i64 (cf 7), .int .i64 (cf 8)] 23)) W → _) := Lib.hid fun W hb => cfg_cells hb
    clear hall hsm hB hJ hjr hat hcb
    unfold cfgV at HSM ⊢
    rcases hcs with rfl | ⟨rfl, h1⟩ | ⟨rfl, h1, h2⟩ | ⟨rfl, h1, h2, h3⟩ <;>
      (go_enter Tryz.func3, Tryz.ntmps3
       go_wp2_with fail
       have HWA := Lib.hid (show Below w.heap.size w (w.alloc (.cells #[.int .i64 (cf 0), .int .i64 (cf 1), .int .i64 (cf 2), .int .i64 (cf 3), .int .i64 (cf 4), .int .i64 (cf 5), .int .i64 (cf 6), .int .i64 (cf 7), .int .i64 (cf 8)] 23)) from (Below.refl _ _).alloc (Nat.le_refl _) _)
       generalize w.alloc (.cells #[.int .i64 (cf 0), .int .i64 (cf 1), .int .i64 (cf 2), .int .i64 (cf 3), .int .i64 (cf 4), .int .i64 (cf 5), .int .i64 (cf 6), .int .i64 (cf 7), .int .i64 (cf 8)] 23) = wa at *
       refine (known16_any _).mono ?_
       rintro e w1 ⟨rfl, hb1⟩
       obtain ⟨c0, c1, c2, c3, c4, c5, c6, c7, c8⟩ := HC.out _ hb1
       have HB1 := Lib.hid hb1
       clear hb1
       go_wp2_with fail
       refine (HSM.out _).mono ?_
       rintro e w2 ⟨rfl, hb2⟩
       have HB2 := Lib.hid (HB1.out.trans (hb2.mono HB1.out.size))
       clear hb2 HB1 c0 c1 c2 c3 c4 c5 c6 c7 c8
       obtain ⟨c0, c1, c2, c3, c4, c5, c6, c7, c8⟩ := HC.out _ HB2.out
       go_wp2
       go_ret
       exact ⟨rfl, HWA.out.trans (HB2.out.mono HWA.out.size)⟩)
end Go.Proofs.YtlhfjaagkgengaaGreat
