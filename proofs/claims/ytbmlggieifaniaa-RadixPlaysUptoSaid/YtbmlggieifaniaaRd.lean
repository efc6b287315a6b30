/- radix's laws: RadixPlays, walked. -/
import Derived.Test.YtbmlggieifaniaaRc
namespace Go.Proofs.Ytbmlggieifaniaa
open Go.RowKit Go.Maps
set_option linter.unusedVariables false
set_option linter.unusedSimpArgs false

set_option maxRecDepth 100000 in
set_option maxHeartbeats 16000000 in
theorem plays_walk (W : World) {A : Option Addr} {n c : Nat} {b : Nat → AArg} (h : Acs W A n b) (hn : n ≤ 9223372036854775807) :
    Calls Try.prog 6 #[.slice A n c] W fun e w' => e = .returned (.bool true) ∧ Below W.heap.size W w' := by
  have HP := Lib.hid h
  clear h
  go_enter Try.func6, Try.ntmps6
  go_upto_region 3 with (go_at_call 8; refine (known_any _).mono ?_; rintro e w0 ⟨rfl, hb0⟩)
  have HB0 := Lib.hid hb0
  clear hb0
  by_cases hfew : fewB b n = true
  case neg =>
    have hfd : fewB b n = false := by simpa using hfew
    clear hfew
    go_wp2_with (go_at_call 15; refine (few_any (HP.out.up HB0.out) hn).mono ?_; rintro e w9 ⟨rfl, rfl⟩; rw [hfd])
    go_ret
    exact ⟨rfl, HB0.out⟩
  have hnI : n ≤ 120 := by
    unfold fewB at hfew
    simp only [Bool.and_eq_true, decide_eq_true_eq] at hfew
    omega
  go_upto_region 5 with (go_at_call 15; refine (few_any (HP.out.up HB0.out) hn).mono ?_; rintro e w9 ⟨rfl, rfl⟩; rw [hfew])
  clear hfew
  obtain ⟨wc, hwc⟩ : ∃ wc, wc = w9 := ⟨_, rfl⟩
  rw [← hwc] at HB0
  rw [← hwc]
  clear hwc
  go_upto_region 7 with (first
    | (go_at_call 10; refine (newShelf_any _).mono ?_; rintro e w1 hsh; have he1 := hsh.1; subst he1; have HSH := Lib.hid hsh; have HTN : Hid (Calls Try.prog 11 #[.iface 26 (.pointer (some ⟨wc.heap.size, 0, none⟩))] w1 (TrNew (shM wc.heap.size) w1 (· = wc.heap.size) sh0)) := Lib.hid (treeNew_any (M := shM wc.heap.size) (w := w1) (O := (· = wc.heap.size)) (s := sh0) (show (shM wc.heap.size).At w1 (· = wc.heap.size) sh0 from hsh.2.2.2)); clear hsh)
    | (go_at_call 11; refine HTN.out.mono ?_; rintro e w2 htn; have he2 := htn.1; subst he2; have HL := Lib.hid (shl_new HB0.out HSH.out htn); clear htn HTN HSH))
  obtain ⟨S, hS⟩ : ∃ S, wc.heap.size = S := ⟨_, rfl⟩
  obtain ⟨T, hT⟩ : ∃ T, w1.heap.size = T := ⟨_, rfl⟩
  rw [hS, hT] at HL
  rw [hS, hT]
  clear hT HB0 hS
  have hmm := @run_makeMap Try.prog
  go_upto_region 12 with (fail)
  clear hmm
  obtain ⟨g5, hg5⟩ : ∃ g, w2.heap.size = g := ⟨_, rfl⟩
  obtain ⟨g6, hg6⟩ : ∃ g, w2.heap.size + 2 = g := ⟨_, rfl⟩
  obtain ⟨Mb, hMb⟩ : ∃ g, w2.heap.size + 1 = g := ⟨_, rfl⟩
  have hst := Plx.start HL.out
  rw [hg6, hMb, hg5] at hst
  rw [hg6, hMb, hg5]
  refine wp_forget (fun V => Plx W V S T (· = S) (sh0, 0) g5 1 g6 1 [(0, 0)] [(Mb, fun _ => none, [])]) hst ?_
  clear hg5 hg6 hMb hst
  rintro V hp0
  have HI0 : Hid (PlI W V S T (· = S) (sh0, 0) g5 1 g6 1 [(0, 0)] [(Mb, fun _ => none, [])] (7 * n + 7) 0 0) := Lib.hid ⟨hp0, by simp, by simp, fun x hx => by simp at hx; subst hx; simp, sh0_rdy (by omega), by show (-1 : Int) < 0; omega, rfl⟩
  clear hp0 HL
  go_wp2
  go_loopw [5, 6, 7, 8] (fun s5 s6 s7 i wr => ∃ (j at_ : Nat) (O : Nat → Prop) (st : ShS × Int) (g5 c5 g6 c6 : Nat) (rs : List (Int × Int)) (es : List (Nat × Mp × Ps)), j ≤ n ∧ s5 = .slice (some ⟨g5, 0, none⟩) rs.length c5 ∧ s6 = .slice (some ⟨g6, 0, none⟩) es.length c6 ∧ s7 = .int .i64 (at_ : Nat) ∧ i = .int .i64 (j : Nat) ∧ PlI W wr S T O st g5 c5 g6 c6 rs es (7 * (n - j) + 7) at_ j) (fun _ _ _ i _ => n - (intOf i).toNat)
  case atStart => exact ⟨0, 0, _, _, g5, 1, g6, 1, [(0, 0)], [(Mb, fun _ => none, [])], by omega, rfl, rfl, rfl, rfl, HI0.out⟩
  case round =>
    obtain ⟨j, at_, O, st, g5, c5, g6, c6, rs, es, hj, rfl, rfl, rfl, rfl, hi⟩ := hrel
    have HI := Lib.hid hi
    have hat := hi.lt
    have HLEN := Lib.hid hi.p.len
    clear hi HI0
    by_cases hjn : j < n
    · obtain ⟨ga, oa, hAA, hgaW, hcsW⟩ := HP.out (by omega)
      obtain ⟨k0W, k1W, k2W, k3W, hinW⟩ := hcsW j hjn
      subst hAA
      obtain ⟨bj, hbj⟩ : ∃ x, b j = x := ⟨_, rfl⟩
      rw [hbj] at k0W k1W k2W k3W hinW
      obtain ⟨op, key, Ab, nb, cb, Lb, turn⟩ := bj
      unfold AArg.v at k2W
      simp only at k0W k1W k2W k3W
      have hbel := HI.out.p.l.bel
      have k0 := (hbel.cell (p := ⟨ga, oa + j * 4, none⟩) hgaW).trans k0W
      have k1 := (hbel.cell (p := ⟨ga, oa + j * 4 + 1, none⟩) hgaW).trans k1W
      have k2 := (hbel.cell (p := ⟨ga, oa + j * 4 + 2, none⟩) hgaW).trans k2W
      have k3 := (hbel.cell (p := ⟨ga, oa + j * 4 + 3, none⟩) hgaW).trans k3W
      have HIN := Lib.hid hinW
      have hatR : at_ < rs.length := by have := HLEN.out; omega
      obtain ⟨⟨ra, rb⟩, hr⟩ : ∃ r, rs[at_]? = some r := ⟨_, List.getElem?_eq_getElem hatR⟩
      obtain ⟨⟨mb, m, ps⟩, hx⟩ : ∃ x, es[at_]? = some x := ⟨_, List.getElem?_eq_getElem hat⟩
      have hrc := HI.out.p.root hr
      have p0 := hrc.1
      have p1 := hrc.2
      have q0 := HI.out.p.map hx
      simp only at p0 p1 q0
      have l5 := HI.out.p.lt5.2
      have l6 := HI.out.p.lt6.2
      have HR := Lib.hid hr
      have HX := Lib.hid hx
      have hatI : (at_ : Int) < (es.length : Int) := by omega
      have hatI2 : (at_ : Int) < (rs.length : Int) := by omega
      have hjI : (j : Int) < (n : Int) := by omega
      have hsz1 : (wr.alloc (.cells #[.int .i64 op, .int .i64 key, .slice Ab nb cb, .int .i64 turn] 51)).heap.size = wr.heap.size + 1 := by simp
      clear hbj k0W k1W k2W k3W hinW hbel hcsW hr hx hrc
      go_upto_region 18 with (fail)
      have hbx := HI.out.boxes op key turn ra rb (.slice Ab nb cb) 51 32
      obtain ⟨g9, hg9⟩ : ∃ g, wr.heap.size = g := ⟨_, rfl⟩
      obtain ⟨g10, hg10⟩ : ∃ g, wr.heap.size + 1 = g := ⟨_, rfl⟩
      rw [hg10, hg9] at hbx
      obtain ⟨x1, x2, x3, x4, x5⟩ := hbx
      refine wp_forget (fun V => PlI W V S T O st g5 c5 g6 c6 rs es (7 * (n - j) + 7) at_ j ∧ AcB V g9 op key (.slice Ab nb cb) turn ∧ BoxA V g10 (ra, rb)) ⟨x1, x2, x3⟩ ?_
      rw [hg10, hg9]
      have HO9 := Lib.hid x4
      have HO10 := Lib.hid x5
      have hWg : W.heap.size ≤ g9 := by rw [← hg9]; exact HI.out.p.l.bel.size
      have hWg10 : W.heap.size ≤ g10 := by omega
      have hne9 : g9 ≠ g5 ∧ g9 ≠ g6 := ⟨by omega, by omega⟩
      clear x1 x2 x3 x4 x5 hg9 hg10 hsz1 k0 k1 k2 k3 p0 p1 q0 l5 l6 HI
      rintro V1 ⟨hi1, ha1, hx1⟩
      have HI1 := Lib.hid hi1
      have HA1 := Lib.hid ha1
      have HB1 := Lib.hid hx1
      have HEN := Lib.hid (hi1.p.ent at_ _ _ HR.out HX.out).1
      have HPU := Lib.hid (puts_any hi1.p.l.tr)
      have k0 := ha1.c0
      have k1 := ha1.c1
      have hlk := HEN.out.mp.look (key := key) HIN.out.2.2.2.1
      simp only at hlk
      generalize hgs : strB ((mI m key).getD []) = gs at hlk
      generalize hgb : (mI m key).isSome = gb at hlk
      have HGS := Lib.hid hgs
      have HGB := Lib.hid hgb
      clear hi1 ha1 hx1 hgs hgb
      go_upto_block 2 with (go_at_call 16; refine HPU.out.mono ?_; rintro e w8 ⟨rfl, rfl⟩)
      clear hlk HPU
      go_cut [5, 6, 7] from 67 to 210 (fun s5 s6 s7 V => ∃ (at_ : Nat) (O : Nat → Prop) (st : ShS × Int) (g5 c5 g6 c6 : Nat) (rs : List (Int × Int)) (es : List (Nat × Mp × Ps)), s5 = .slice (some ⟨g5, 0, none⟩) rs.length c5 ∧ s6 = .slice (some ⟨g6, 0, none⟩) es.length c6 ∧ s7 = .int .i64 (at_ : Nat) ∧ PlI W V S T O st g5 c5 g6 c6 rs es (7 * (n - (j + 1)) + 7) at_ (j + 1) ∧ V.cell? ⟨g9, 1, none⟩ = some (.int .i64 key) ∧ Out O T g9)
      case first =>
        have hrl : rs.length ≤ 200 := by have h8 := HLEN.out; have h9 := HI1.out.cnt; omega
        have l9 := HA1.out.lt
        have l10 := HB1.out.lt
        have c2 := HA1.out.c2
        have c3 := HA1.out.c3
        have b0 := HB1.out.1
        have b1 := HB1.out.2.1
        simp only at b0 b1
        by_cases ho1 : op = 1
        · subst ho1
          by_cases hkk : keyOk key
          case neg =>
            have hkd : decide (keyOk key) = false := decide_eq_false hkk
            have HST := Lib.hid (set1_bad HI1.out.p.l.tr (ra, rb) (key := key) (v := .slice Ab nb cb) rfl (er := 1) (.inl ⟨hkk, rfl⟩))
            clear hkk
            as_aux_lemma =>
              unfold addrV at HST
              simp only at HST
              go_upto_region 23 with (go_at_call 12; refine HST.out.mono ?_; rintro e w3 hq; obtain ⟨O3, hq3⟩ := HI1.out.bad hq; have he := hq3.1; subst he; have HQ := Lib.hid hq3; clear hq hq3 HST)
              have hb3 : Below w3.heap.size w3 (w3.alloc (.cells #[.int .i64 0, .int .i64 0] 32)) := (Below.refl _ _).alloc (Nat.le_refl _) _
              refine wp_forget (fun V => PlI W V S T O3 st g5 c5 g6 c6 rs es (7 * (n - j) + 7) at_ j ∧ AcB V g9 1 key (.slice Ab nb cb) turn) ⟨HQ.out.2.1.up hb3, (HA1.out.off HQ.out.2.2.1 (fun e => e.elim HO9.out.1 HO9.out.2)).off (P := fun _ => False) (Off.of_below hb3) id⟩ ?_
              clear hb3 b0 b1 c2 c3 l9 l10 k0 k1
              rintro V3 ⟨hi3, ha3⟩
              have HI3 := Lib.hid (hi3.next (k' := 7 * (n - (j + 1)) + 7) (N' := j + 1) (at' := at_) (by omega) (by omega) hi3.lt)
              have k1 := ha3.c1
              have c2 := ha3.c2
              have HPU := Lib.hid (puts_any hi3.p.l.tr)
              clear hi3 ha3
              go_wp2_with (first
                | (go_at_call 9; refine (right9_any _ _).mono ?_; rintro e w7 ⟨rfl, rfl⟩; rw [hkd])
                | (go_at_call 16; refine HPU.out.mono ?_; rintro e w7 ⟨rfl, rfl⟩))
              go_roundw
              case rel => exact ⟨j + 1, at_, O3, st, g5, c5, g6, c6, rs, es, by omega, rfl, rfl, rfl, by go_num, HI3.out⟩
              case measure => simp [intOf]; omega
          have hkd : decide (keyOk key) = true := decide_eq_true hkk
          by_cases hlb : (256 : Int) < (nb : Int)
          · have HST := Lib.hid (set1_bad HI1.out.p.l.tr (ra, rb) (key := key) (v := .slice Ab nb cb) rfl (er := 24) (.inr ⟨hkk, by omega, rfl⟩))
            have hld : decide ((256 : Int) < (nb : Int)) = true := decide_eq_true hlb
            clear hkk hlb
            as_aux_lemma =>
              unfold addrV at HST
              simp only at HST
              go_upto_region 23 with (go_at_call 12; refine HST.out.mono ?_; rintro e w3 hq; obtain ⟨O3, hq3⟩ := HI1.out.bad hq; have he := hq3.1; subst he; have HQ := Lib.hid hq3; clear hq hq3 HST)
              have hb3 : Below w3.heap.size w3 (w3.alloc (.cells #[.int .i64 0, .int .i64 0] 32)) := (Below.refl _ _).alloc (Nat.le_refl _) _
              refine wp_forget (fun V => PlI W V S T O3 st g5 c5 g6 c6 rs es (7 * (n - j) + 7) at_ j ∧ AcB V g9 1 key (.slice Ab nb cb) turn) ⟨HQ.out.2.1.up hb3, (HA1.out.off HQ.out.2.2.1 (fun e => e.elim HO9.out.1 HO9.out.2)).off (P := fun _ => False) (Off.of_below hb3) id⟩ ?_
              clear hb3 b0 b1 c2 c3 l9 l10 k0 k1
              rintro V3 ⟨hi3, ha3⟩
              have HI3 := Lib.hid (hi3.next (k' := 7 * (n - (j + 1)) + 7) (N' := j + 1) (at' := at_) (by omega) (by omega) hi3.lt)
              have k1 := ha3.c1
              have c2 := ha3.c2
              have HPU := Lib.hid (puts_any hi3.p.l.tr)
              clear hi3 ha3
              go_wp2_with (first
                | (go_at_call 9; refine (right9_any _ _).mono ?_; rintro e w7 ⟨rfl, rfl⟩; rw [hkd])
                | (go_at_call 16; refine HPU.out.mono ?_; rintro e w7 ⟨rfl, rfl⟩))
              go_roundw
              case rel => exact ⟨j + 1, at_, O3, st, g5, c5, g6, c6, rs, es, by omega, rfl, rfl, rfl, by go_num, HI3.out⟩
              case measure => simp [intOf]; omega
          have hld : decide ((256 : Int) < (nb : Int)) = false := decide_eq_false hlb
          obtain ⟨kn, hkn⟩ : ∃ k : Nat, key = (k : Int) := ⟨key.toNat, by have := hkk.1; omega⟩
          subst hkn
          have hkn : kn < 16777216 := by have := hkk.2; omega
          have hlL := HIN.out.1.1
          simp only at hlL
          have hlb2 : Lb.length ≤ 256 := by omega
          clear hkk hlb hlL
          as_aux_lemma =>
            have hj1 : 7 * (n - j) + 7 = 7 * (n - (j + 1)) + 7 + 7 := by omega
            have HI1b : Hid (PlI W w8 S T O st g5 c5 g6 c6 rs es (7 * (n - (j + 1)) + 7 + 7) at_ j) := Lib.hid (by rw [← hj1]; exact HI1.out)
            have HST : Hid (Calls Try.prog 12 #[.pointer (some ⟨T, 0, none⟩), .agg #[.int .i64 ra, .int .i64 rb], .int .i64 (kn : Nat), .slice Ab nb cb] w8 fun e w3 => ∃ O' st' r', SetOk W w8 w3 S T O O' st st' (7 * (n - (j + 1)) + 7) 6 (fun rd' r' => Tells rd' 0 0 r' (upd m kn (some Lb)) ∧ (m kn = some Lb → r' = (ra, rb))) r' e) := Lib.hid
              (shl_set HI1b.out.p.l HI1b.out.rdy HI1b.out.full (r := (ra, rb)) HEN.out.tl hkn ⟨_, _, _, rfl, HIN.out.2.1, HIN.out.1.up HI1b.out.p.l.bel⟩ hlb2 (HI1b.out.p.l.out (PArg.low HIN.out.1)))
            go_upto_region 23 with (go_at_call 12; refine HST.out.mono ?_; rintro e w3 ⟨O3, st3, ⟨r3a, r3b⟩, hs⟩; have he3 := hs.e; subst he3; have HS3 := Lib.hid hs; clear hs HST)
            obtain ⟨hi3, jj, hjj, hpu3⟩ := HI1b.out.set (Below.refl _ _) (by omega) HS3.out
            have hg3 := HS3.out.g
            have hO3 := out_next HO9.out HS3.out.hO l9
            have hb3 : Below w3.heap.size w3 (w3.alloc (.cells #[.int .i64 r3a, .int .i64 r3b] 32)) := (Below.refl _ _).alloc (Nat.le_refl _) _
            refine wp_forget (fun V => PlI W V S T O3 st3 g5 c5 g6 c6 rs es (7 * (n - (j + 1)) + 7) at_ j ∧ AcB V g9 1 kn (.slice Ab nb cb) turn ∧ BoxA V g10 (ra, rb) ∧ BoxA V w3.heap.size (r3a, r3b)) ⟨hi3.up hb3, (HA1.out.off HS3.out.off (fun e => e.elim HO9.out.1 HO9.out.2)).off (P := fun _ => False) (Off.of_below hb3) id, (HB1.out.off HS3.out.off (fun e => e.elim HO10.out.1 HO10.out.2)).off (S := fun _ => False) (Off.of_below hb3) id, BoxA.new w3 32 (r3a, r3b)⟩ ?_
            obtain ⟨g15, hg15⟩ : ∃ g, w3.heap.size = g := ⟨_, rfl⟩
            rw [hg15]
            have HT3 := Lib.hid hg3.1
            have HEQ := Lib.hid hg3.2
            have HO3 := Lib.hid hO3
            have hwp : IntKind.i64.wrap (st.2 + 6) = st.2 + 6 := IntWalk.i64_in _ (by have h8 := HI1b.out.pu; have h9 := HI1b.out.rdy.1; omega)
            have hgt : decide (st.2 + 6 < st3.2) = false := decide_eq_false (by omega)
            clear hb3 b0 b1 c2 c3 l9 l10 k0 k1 hg15 hi3 hg3 hO3 HS3 HI1b HI1 HA1 HB1 hjj hpu3 hj1
            rintro V3 ⟨hi3, ha3, hx3, hy3⟩
            have HI3 := Lib.hid hi3
            have HA3 := Lib.hid ha3
            have HY3 := Lib.hid hy3
            have HEN3 := Lib.hid (hi3.p.ent at_ _ _ HR.out HX.out).1
            have k1 := ha3.c1
            have c2 := ha3.c2
            have b0 := hx3.1
            have b1 := hx3.2.1
            have p0 := hy3.1
            have p1 := hy3.2.1
            simp only at b0 b1 p0 p1
            have HPU := Lib.hid (puts_any hi3.p.l.tr)
            have cv1 : (convert 23 9 (.slice Ab nb cb)).run Try.prog V3 = .ok (.string (strB Lb)) V3 := (HIN.out.1.up hi3.p.l.bel).str cb
            clear hi3 ha3 hx3 hy3 HEN
            go_upto_region 26 with (go_at_call 9; refine (right9_any _ _).mono ?_; rintro e w7 ⟨rfl, rfl⟩; rw [hkd])
            go_cut [137] from 114 to 136 (fun s V => s = .bool false ∧ V = w7)
            case first =>
              as_aux_lemma =>
                cases gb with
                | false =>
                  clear HEQ
                  go_wp2_with (go_at_call 16; refine HPU.out.mono ?_; rintro e w8 ⟨rfl, rfl⟩)
                  go_meet
                  exact ⟨rfl, rfl⟩
                | true =>
                  obtain ⟨L0, hmk⟩ : ∃ L, m kn = some L := by
                    have h9 := HGB.out
                    rw [mI_nat] at h9
                    exact Option.isSome_iff_exists.1 h9
                  have hse := strB_eq L0 Lb
                  have hgs := HGS.out
                  rw [mI_nat, hmk, Option.getD_some] at hgs
                  rw [hgs] at hse
                  clear hgs
                  by_cases hL : L0 = Lb
                  · subst hL
                    have hq : (r3a, r3b) = (ra, rb) := HEQ.out hmk
                    have hq0 := fun w => eq_addr r3a r3b ra rb w
                    rw [decide_eq_true hq] at hq0
                    rw [decide_eq_true rfl] at hse
                    clear hmk hq HEQ
                    go_wp2_with (go_at_call 16; refine HPU.out.mono ?_; rintro e w8 ⟨rfl, rfl⟩)
                    go_meet
                    exact ⟨rfl, rfl⟩
                  · rw [decide_eq_false hL] at hse
                    clear hmk HEQ hL
                    go_wp2_with (go_at_call 16; refine HPU.out.mono ?_; rintro e w8 ⟨rfl, rfl⟩)
                    go_meet
                    exact ⟨rfl, rfl⟩
            case rest =>
            obtain ⟨rfl, hw7⟩ := hcut
            subst hw7
            clear b0 b1 cv1 hgt hwp HPU HEQ
            go_upto_region 29 with (go_at_call 17; refine (twin_any HEN3.out.mp).mono ?_; rintro e w4 ⟨rfl, hm4, hb4⟩; have HM4 := Lib.hid hm4; have HB4 := Lib.hid hb4; clear hm4 hb4)
            have hfr := HI3.out.p.fresh
            obtain ⟨Nb, hNb⟩ : ∃ g, wc.heap.size = g := ⟨_, rfl⟩
            rw [hNb] at hfr HM4
            rw [hNb]
            have HB4b := Lib.hid HB4.out
            obtain ⟨f1, f2, f3, f4, f5⟩ := hfr
            have ha4 := HA3.out.off (P := fun _ => False) (Off.of_below HB4.out) id
            have k1 := ha4.c1
            have c2 := ha4.c2
            have cv2 : (convert 23 9 (.slice Ab nb cb)).run Try.prog w4 = .ok (.string (strB Lb)) w4 := (HIN.out.1.up (HI3.out.up HB4.out).p.l.bel).str cb
            have hpsl : ps.length ≤ j := HI3.out.sm _ (List.mem_of_getElem? HX.out)
            obtain ⟨w5, hu5, ho5, he5, hl5⟩ := ent_put HM4.out HEN3.out.lst hkn Lb HT3.out f1 f2 (by omega)
            have hi5 := (HI3.out.up HB4.out).offN ho5 f1 f2 f3 f4 f5
            have hy5 := (HY3.out.off (S := fun _ => False) (Off.of_below HB4.out) id).off ho5 (by show ¬ g15 = Nb; have := HY3.out.lt; omega)
            have ha5 := ha4.off ho5 (by show ¬ g9 = Nb; have := HA3.out.lt; omega)
            have HA5 := Lib.hid ha5
            have HY5 := Lib.hid hy5
            have HI5 := Lib.hid hi5
            have HE5 := Lib.hid he5
            have HF := Lib.hid (show Nb ≠ g5 ∧ Nb ≠ g6 ∧ ∀ y ∈ es, y.1 ≠ Nb from ⟨f3, f4, f5⟩)
            have hlt9 : g9 < Nb := by have := HA3.out.lt; omega
            clear p0 p1 ha4 hi5 hy5 ha5 he5 ho5 f1 f2 f3 f4 f5 HB4 HB4b HM4 HI3 HA3 HY3 HEN3 HT3
            go_upto_region 30 with (fail)
            have p0 := HY5.out.1
            have p1 := HY5.out.2.1
            simp only at p0 p1
            obtain ⟨g5', c5', w6, hr6, g6', c6', w7, hr7, hi7, ho7⟩ := HI5.out.push HE5.out HF.out.1 HF.out.2.1 HF.out.2.2 (by show (insP kn Lb ps).length ≤ _; omega) (by omega) 48 49
            have HI7 := Lib.hid (hi7.next (k' := 7 * (n - (j + 1)) + 7) (N' := j + 1) (at' := rs.length) (by omega) (by omega) hi7.lt)
            have HA7 := Lib.hid (HA5.out.off ho7 (fun e => e.elim hne9.1 hne9.2))
            simp only at hr6 hr7
            clear hi7 ho7 cv2 hu5 k1 c2
            go_upto_region 31 with (at_builtin; go_must (refine wpList_append_run rfl (.tmp 146) (.tmp 148) 48 rfl _ _ rfl rfl hr6 ?_))
            clear hr6 p0 p1
            go_wp2_with (at_builtin; go_must (refine wpList_append_run rfl (.tmp 150) (.tmp 152) 49 rfl _ _ rfl rfl hr7 ?_))
            go_meet
            exact ⟨rs.length, O3, st3, g5', c5', g6', c6', rs ++ [(r3a, r3b)], es ++ [(Nb, upd m kn (some Lb), insP kn Lb ps)], by simp, by simp, by go_num, HI7.out, HA7.out.c1, HO3.out⟩
        · by_cases ho2 : op = 2
          · subst ho2
            by_cases hkk : keyOk key
            case neg =>
              have hkd : decide (keyOk key) = false := decide_eq_false hkk
              have HST := Lib.hid (delete_bad HI1.out.p.l.tr (ra, rb) (key := key) hkk)
              clear hkk
              as_aux_lemma =>
                unfold addrV at HST
                simp only at HST
                go_upto_region 35 with (go_at_call 14; refine HST.out.mono ?_; rintro e w3 hq; obtain ⟨O3, hq3⟩ := HI1.out.bad hq; have he := hq3.1; subst he; have HQ := Lib.hid hq3; clear hq hq3 HST)
                have hb3 : Below w3.heap.size w3 (w3.alloc (.cells #[.int .i64 0, .int .i64 0] 32)) := (Below.refl _ _).alloc (Nat.le_refl _) _
                refine wp_forget (fun V => PlI W V S T O3 st g5 c5 g6 c6 rs es (7 * (n - j) + 7) at_ j ∧ AcB V g9 2 key (.slice Ab nb cb) turn) ⟨HQ.out.2.1.up hb3, (HA1.out.off HQ.out.2.2.1 (fun e => e.elim HO9.out.1 HO9.out.2)).off (P := fun _ => False) (Off.of_below hb3) id⟩ ?_
                clear hb3 b0 b1 c2 c3 l9 l10 k0 k1
                rintro V3 ⟨hi3, ha3⟩
                have HI3 := Lib.hid (hi3.next (k' := 7 * (n - (j + 1)) + 7) (N' := j + 1) (at' := at_) (by omega) (by omega) hi3.lt)
                have k1 := ha3.c1
                clear hi3 ha3
                go_wp2_with (go_at_call 9; refine (right9_any _ _).mono ?_; rintro e w7 ⟨rfl, rfl⟩; rw [hkd])
                go_roundw
                case rel => exact ⟨j + 1, at_, O3, st, g5, c5, g6, c6, rs, es, by omega, rfl, rfl, rfl, by go_num, HI3.out⟩
                case measure => simp [intOf]; omega
            have hkd : decide (keyOk key) = true := decide_eq_true hkk
            obtain ⟨kn, hkn⟩ : ∃ k : Nat, key = (k : Int) := ⟨key.toNat, by have := hkk.1; omega⟩
            subst hkn
            have hkn : kn < 16777216 := by have := hkk.2; omega
            clear hkk
            as_aux_lemma =>
              have hj1 : 7 * (n - j) + 7 = 7 * (n - (j + 1)) + 7 + 7 := by omega
              have HI1b : Hid (PlI W w8 S T O st g5 c5 g6 c6 rs es (7 * (n - (j + 1)) + 7 + 7) at_ j) := Lib.hid (by rw [← hj1]; exact HI1.out)
              have HST : Hid (Calls Try.prog 14 #[.pointer (some ⟨T, 0, none⟩), .agg #[.int .i64 ra, .int .i64 rb], .int .i64 (kn : Nat)] w8 fun e w3 => ∃ O' st' r', SetOk W w8 w3 S T O O' st st' (7 * (n - (j + 1)) + 7) 7 (fun rd' r' => TellsR rd' r' (upd m kn none) ∧ (m kn = none → r' = (ra, rb))) r' e) := Lib.hid
                (shl_del HI1b.out.p.l HI1b.out.rdy HI1b.out.full (r := (ra, rb)) HEN.out.tl hkn)
              go_upto_region 35 with (go_at_call 14; refine HST.out.mono ?_; rintro e w3 ⟨O3, st3, ⟨r3a, r3b⟩, hs⟩; have he3 := hs.e; subst he3; have HS3 := Lib.hid hs; clear hs HST)
              obtain ⟨hi3, jj, hjj, hpu3⟩ := HI1b.out.set (Below.refl _ _) (by omega) HS3.out
              have hg3 := HS3.out.g
              have hO3 := out_next HO9.out HS3.out.hO l9
              have hb3 : Below w3.heap.size w3 (w3.alloc (.cells #[.int .i64 r3a, .int .i64 r3b] 32)) := (Below.refl _ _).alloc (Nat.le_refl _) _
              refine wp_forget (fun V => PlI W V S T O3 st3 g5 c5 g6 c6 rs es (7 * (n - (j + 1)) + 7) at_ j ∧ AcB V g9 2 kn (.slice Ab nb cb) turn ∧ BoxA V g10 (ra, rb) ∧ BoxA V w3.heap.size (r3a, r3b)) ⟨hi3.up hb3, (HA1.out.off HS3.out.off (fun e => e.elim HO9.out.1 HO9.out.2)).off (P := fun _ => False) (Off.of_below hb3) id, (HB1.out.off HS3.out.off (fun e => e.elim HO10.out.1 HO10.out.2)).off (S := fun _ => False) (Off.of_below hb3) id, BoxA.new w3 32 (r3a, r3b)⟩ ?_
              obtain ⟨g17, hg17⟩ : ∃ g, w3.heap.size = g := ⟨_, rfl⟩
              rw [hg17]
              have HT3 := Lib.hid hg3.1
              have HEQ := Lib.hid hg3.2
              have HO3 := Lib.hid hO3
              clear hb3 b0 b1 c2 c3 l9 l10 k0 k1 hg17 hi3 hg3 hO3 HS3 HI1b HI1 HA1 HB1 hjj hpu3 hj1
              rintro V3 ⟨hi3, ha3, hx3, hy3⟩
              have HI3 := Lib.hid hi3
              have HA3 := Lib.hid ha3
              have HY3 := Lib.hid hy3
              have HEN3 := Lib.hid (hi3.p.ent at_ _ _ HR.out HX.out).1
              have k1 := ha3.c1
              have b0 := hx3.1
              have b1 := hx3.2.1
              have p0 := hy3.1
              have p1 := hy3.2.1
              simp only at b0 b1 p0 p1
              clear hi3 ha3 hx3 hy3 HEN
              go_upto_region 38 with (go_at_call 9; refine (right9_any _ _).mono ?_; rintro e w7 ⟨rfl, rfl⟩; rw [hkd])
              go_cut [183] from 173 to 182 (fun s V => s = .bool false ∧ V = w7)
              case first =>
                as_aux_lemma =>
                  cases gb with
                  | false =>
                    have hmk : m kn = none := by
                      have h9 := HGB.out
                      rw [mI_nat] at h9
                      cases h : m kn with
                      | none => rfl
                      | some L => rw [h] at h9; cases h9
                    have hq : (r3a, r3b) = (ra, rb) := HEQ.out hmk
                    have hq0 := fun w => eq_addr r3a r3b ra rb w
                    rw [decide_eq_true hq] at hq0
                    clear hmk hq HEQ
                    go_wp2_with fail
                    go_meet
                    exact ⟨rfl, rfl⟩
                  | true =>
                    clear HEQ
                    go_wp2_with fail
                    go_meet
                    exact ⟨rfl, rfl⟩
              case rest =>
              obtain ⟨rfl, hw7⟩ := hcut
              subst hw7
              clear b0 b1 HEQ
              go_upto_region 41 with (go_at_call 17; refine (twin_any HEN3.out.mp).mono ?_; rintro e w4 ⟨rfl, hm4, hb4⟩; have HM4 := Lib.hid hm4; have HB4 := Lib.hid hb4; clear hm4 hb4)
              have hfr := HI3.out.p.fresh
              obtain ⟨Nb, hNb⟩ : ∃ g, wc.heap.size = g := ⟨_, rfl⟩
              rw [hNb] at hfr HM4
              rw [hNb]
              have HB4b := Lib.hid HB4.out
              obtain ⟨f1, f2, f3, f4, f5⟩ := hfr
              have ha4 := HA3.out.off (P := fun _ => False) (Off.of_below HB4.out) id
              have k1 := ha4.c1
              have hpsl : ps.length ≤ j := HI3.out.sm _ (List.mem_of_getElem? HX.out)
              obtain ⟨w5, hu5, ho5, he5, hl5⟩ := ent_del HM4.out HEN3.out.lst hkn 0 HT3.out f1 f2 (by omega)
              have hi5 := (HI3.out.up HB4.out).offN ho5 f1 f2 f3 f4 f5
              have hy5 := (HY3.out.off (S := fun _ => False) (Off.of_below HB4.out) id).off ho5 (by show ¬ g17 = Nb; have := HY3.out.lt; omega)
              have ha5 := ha4.off ho5 (by show ¬ g9 = Nb; have := HA3.out.lt; omega)
              have HA5 := Lib.hid ha5
              have HY5 := Lib.hid hy5
              have HI5 := Lib.hid hi5
              have HE5 := Lib.hid he5
              have HF := Lib.hid (show Nb ≠ g5 ∧ Nb ≠ g6 ∧ ∀ y ∈ es, y.1 ≠ Nb from ⟨f3, f4, f5⟩)
              have hlt9 : g9 < Nb := by have := HA3.out.lt; omega
              clear p0 p1 ha4 hi5 hy5 ha5 he5 ho5 f1 f2 f3 f4 f5 HB4 HB4b HM4 HI3 HA3 HY3 HEN3 HT3
              go_upto_region 42 with (at_delete; go_must (refine wpList_delete_run rfl (.tmp 186) (.tmp 188) 30 3 rfl _ _ rfl rfl hu5 ?_))
              have p0 := HY5.out.1
              have p1 := HY5.out.2.1
              simp only at p0 p1
              obtain ⟨g5', c5', w6, hr6, g6', c6', w7, hr7, hi7, ho7⟩ := HI5.out.push HE5.out HF.out.1 HF.out.2.1 HF.out.2.2 (by show (ps.filter fun x => decide (x.1 ≠ kn)).length ≤ _; omega) (by omega) 48 49
              have HI7 := Lib.hid (hi7.next (k' := 7 * (n - (j + 1)) + 7) (N' := j + 1) (at' := rs.length) (by omega) (by omega) hi7.lt)
              have HA7 := Lib.hid (HA5.out.off ho7 (fun e => e.elim hne9.1 hne9.2))
              simp only at hr6 hr7
              clear hi7 ho7 hu5 k1
              go_upto_region 43 with (at_builtin; go_must (refine wpList_append_run rfl (.tmp 189) (.tmp 191) 48 rfl _ _ rfl rfl hr6 ?_))
              clear hr6 p0 p1
              go_wp2_with (at_builtin; go_must (refine wpList_append_run rfl (.tmp 193) (.tmp 195) 49 rfl _ _ rfl rfl hr7 ?_))
              go_meet
              exact ⟨rs.length, O3, st3, g5', c5', g6', c6', rs ++ [(r3a, r3b)], es ++ [(Nb, upd m kn none, ps.filter fun x => decide (x.1 ≠ kn))], by simp, by simp, by go_num, HI7.out, HA7.out.c1, HO3.out⟩
          · by_cases ho4 : op = 4
            · subst ho4
              as_aux_lemma =>
                have hne : (rs.length : Int) ≠ 0 := by omega
                obtain ⟨q, hq, hqt⟩ : ∃ q : Nat, q < rs.length ∧ ((0 ≤ turn.tmod rs.length ∧ turn.tmod rs.length = (q : Int)) ∨ (turn.tmod rs.length < 0 ∧ 0 - turn.tmod rs.length = (q : Int))) := turn_abs (by omega)
                have hql : q < es.length := by have := HLEN.out; omega
                generalize hR : turn.tmod (rs.length : Int) = R at hqt
                have HI3 := Lib.hid (HI1.out.next (k' := 7 * (n - (j + 1)) + 7) (N' := j + 1) (at' := q) (by omega) (by omega) hql)
                rcases hqt with ⟨h1, h2⟩ | ⟨h1, h2⟩
                · have H2 := Lib.hid h2
                  have h1d : decide (R < 0) = false := decide_eq_false (by omega)
                  clear h2 h1
                  go_wp2_with fail
                  go_meet
                  exact ⟨q, O, st, g5, c5, g6, c6, rs, es, rfl, rfl, by rw [H2.out], HI3.out, k1, HO9.out⟩
                · have H2 := Lib.hid h2
                  have h1d : decide (R < 0) = true := decide_eq_true h1
                  have hw : wrap64 (-R) = 0 - R := by unfold wrap64; omega
                  clear h2
                  go_wp2_with fail
                  go_meet
                  exact ⟨q, O, st, g5, c5, g6, c6, rs, es, rfl, rfl, by rw [hw, H2.out], HI3.out, k1, HO9.out⟩
            · have e1 : (op == 1) = false := by simpa using ho1
              have e2 : (op == 2) = false := by simpa using ho2
              have e4 : (op == 4) = false := by simpa using ho4
              as_aux_lemma =>
                have HI3 := Lib.hid (HI1.out.next (k' := 7 * (n - (j + 1)) + 7) (N' := j + 1) (at' := at_) (by omega) (by omega) HI1.out.lt)
                clear ho1 ho2 ho4
                go_wp2_with fail
                go_meet
                exact ⟨at_, O, st, g5, c5, g6, c6, rs, es, rfl, rfl, rfl, HI3.out, k1, HO9.out⟩
      case rest =>
        obtain ⟨at2, O3, st3, g5b, c5b, g6b, c6b, rs3, es3, rfl, rfl, rfl, hi3, k1, hO9⟩ := hcut
        obtain ⟨⟨r3a, r3b⟩, ⟨mb3, m3, ps3⟩, hr3, hx3, he3, hatR3⟩ := hi3.atR hi3.lt
        have hrc := hi3.p.root hr3
        have p0 := hrc.1
        have p1 := hrc.2
        have q0 := hi3.p.map hx3
        simp only at p0 p1 q0
        have hatI3 : (at2 : Int) < (es3.length : Int) := by have := hi3.lt; omega
        have hatI4 : (at2 : Int) < (rs3.length : Int) := by omega
        have HI3 := Lib.hid hi3
        have HE3 := Lib.hid he3
        have HO9b := Lib.hid hO9
        have HX3 := Lib.hid hx3
        have HR3 := Lib.hid hr3
        have l9 := lt_of_cell k1
        have l5 := hi3.p.lt5.2
        have l6 := hi3.p.lt6.2
        clear hi3 he3 hO9 hr3 hx3 hrc HI1 HA1 HB1 HEN HO9 HO10 HR HX HGS HGB hatI hatI2 hatR
        go_upto_region 49 with (fail)
        by_cases hkk : keyOk key
        case neg =>
          as_aux_lemma =>
            have hkd : decide (keyOk key) = false := decide_eq_false hkk
            have HKK := Lib.hid (show ¬ (0 ≤ key ∧ key < 16777216) from hkk)
            clear hkk
            refine wp_region_up_tail 7 (by kernel_rfl) (by kernel_rfl) (by kernel_rfl) ?_
            simp only [List.take_succ_cons, List.take_zero, List.drop_succ_cons, List.drop_zero]
            repeat (go_big_quiet_step (fail))
            refine wpQuiet_nil ?_
            rintro _ ⟨g, rfl⟩
            go_wp2_with fail
            refine (look_bad g.world T (r3a, r3b) HKK.out).mono ?_
            rintro e w4 ⟨rfl, hb4⟩
            have HI4 := Lib.hid ((HI3.out.up g.h).up hb4)
            have k1' := ((Off.of_below hb4 (S := fun _ => False)).cell (p := ⟨g9, 1, none⟩) (Nat.lt_of_lt_of_le l9 g.h.size) id).trans ((g.h.cell (p := ⟨g9, 1, none⟩) l9).trans k1)
            have q0' := HI4.out.p.map HX3.out
            have hlk : ∀ g : Up w4, (Instr.lookup 30 (.map (some mb3)) (.int .i64 key) true).run Try.prog g.world = .ok (.tuple #[.string (strB ((mI m3 key).getD [])), .bool (mI m3 key).isSome]) g.world := fun g => (((HI4.out.up g.h).p.ent at2 _ _ (HR3.out) HX3.out).1).mp.look (key := key) HIN.out.2.2.2.1
            clear hb4 p0 p1 q0 k1 l9 l5 l6 HI3 HE3
            simp only at q0'
            have l9 := lt_of_cell k1'
            have l6 := lt_of_cell q0'
            go_upto_region 50 with (fail)
            refine wp_region_up (by kernel_rfl) (by kernel_rfl) ?_
            repeat (go_big_quiet_step (fail))
            refine wpQuiet_nil ?_
            rintro _ ⟨g2, rfl⟩
            have HI5 := Lib.hid (HI4.out.up g2.h)
            have k1 := (g2.h.cell (p := ⟨g9, 1, none⟩) l9).trans k1'
            clear hlk q0' k1' l9 l6 HI4
            go_wp2_with (go_at_call 9; refine (right9_any _ _).mono ?_; rintro e w7 ⟨rfl, rfl⟩; rw [hkd])
            go_roundw
            case rel => exact ⟨j + 1, at2, O3, st3, g5b, c5b, g6b, c6b, rs3, es3, by omega, rfl, rfl, rfl, by go_num, HI5.out⟩
            case measure => simp [intOf]; omega
        as_aux_lemma =>
          have hkd : decide (keyOk key) = true := decide_eq_true hkk
          obtain ⟨kn, hkn⟩ : ∃ k : Nat, key = (k : Int) := ⟨key.toNat, by have := hkk.1; omega⟩
          subst hkn
          have hkn : kn < 16777216 := by have := hkk.2; omega
          clear hkk
          refine wp_region_up_tail 7 (by kernel_rfl) (by kernel_rfl) (by kernel_rfl) ?_
          simp only [List.take_succ_cons, List.take_zero, List.drop_succ_cons, List.drop_zero]
          repeat (go_big_quiet_step (fail))
          refine wpQuiet_nil ?_
          rintro _ ⟨g, rfl⟩
          go_wp2_with fail
          refine (shl_get (HI3.out.up g.h).p.l (r := (r3a, r3b)) HE3.out.tl hkn).mono ?_
          rintro e w4 ⟨v4, s4, rfl, hg4, hv4, _⟩
          have HI4 := Lib.hid ((HI3.out.up g.h).get hg4)
          have k1' := (hg4.off.cell (p := ⟨g9, 1, none⟩) (Nat.lt_of_lt_of_le l9 g.h.size) HO9b.out.1).trans ((g.h.cell (p := ⟨g9, 1, none⟩) l9).trans k1)
          have q0' := HI4.out.p.map HX3.out
          have hlk : ∀ g : Up w4, (Instr.lookup 30 (.map (some mb3)) (.int .i64 (kn : Nat)) true).run Try.prog g.world = .ok (.tuple #[.string (strB ((m3 kn).getD [])), .bool (m3 kn).isSome]) g.world := fun g => by
            have h9 := (((HI4.out.up g.h).p.ent at2 _ _ (HR3.out) HX3.out).1).mp.look (key := ((kn : Nat) : Int)) HIN.out.2.2.2.1
            simp only [mI_nat] at h9
            exact h9
          have HV4 := Lib.hid hv4
          clear hg4 hv4 p0 p1 q0 k1 l9 l5 l6 HI3 HE3
          simp only at q0'
          have l9 := lt_of_cell k1'
          have l6 := lt_of_cell q0'
          go_upto_region 50 with (fail)
          refine wp_region_up (by kernel_rfl) (by kernel_rfl) ?_
          repeat (go_big_quiet_step (fail))
          refine wpQuiet_nil ?_
          rintro _ ⟨g2, rfl⟩
          have HI5 := Lib.hid (HI4.out.up g2.h)
          have k1 := (g2.h.cell (p := ⟨g9, 1, none⟩) l9).trans k1'
          have cv4 := gl_str (HV4.out.up g2.h)
          have hse := strB_eq ((m3 kn).getD []) ((m3 kn).getD [])
          rw [decide_eq_true rfl] at hse
          generalize (m3 kn).getD [] = Lg at *
          generalize (m3 kn).isSome = bg at *
          clear hlk q0' k1' l9 l6 HI4
          go_wp2_with (go_at_call 9; refine (right9_any _ _).mono ?_; rintro e w7 ⟨rfl, rfl⟩; rw [hkd])
          go_roundw
          case rel => exact ⟨j + 1, at2, O3, (s4, st3.2), g5b, c5b, g6b, c6b, rs3, es3, by omega, rfl, rfl, rfl, by go_num, HI5.out⟩
          case measure => simp [intOf]; omega
    · obtain rfl : j = n := by omega
      as_aux_lemma =>
        have hj2 : ¬ (j : Int) < (j : Int) := by omega
        obtain ⟨Ar, cr, q0⟩ := HI.out.p.l.rows
        have hpe : (st.2 == (st.1.L.length : Int)) = true := beq_iff_eq.2 HI.out.pu
        have lS := lt_of_cell q0
        have HPU : Hid (∀ g : Up wr, Calls Try.prog 16 #[.pointer (some ⟨T, 0, none⟩)] g.world fun e w'' => e = .returned (.int .i64 st.2) ∧ ∃ g' : Up wr, w'' = g'.world) := Lib.hid fun g => (puts_any (HI.out.up g.h).p.l.tr).mono fun e w'' h => ⟨h.1, g, h.2⟩
        clear hjn HP
        go_upto_region 56 with (fail)
        refine wp_region_up (by kernel_rfl) (by kernel_rfl) ?_
        repeat (go_big_quiet_step (first | (go_at_call 16; exact HPU.out _)))
        refine wpQuiet_nil ?_
        rintro _ ⟨g, rfl⟩
        have HI2 := Lib.hid (HI.out.up g.h)
        clear q0 lS HPU HI
        go_wp2
        go_loopw [24] (fun i wr => ∃ (i0 : Nat) (s' : ShS), i = .int .i64 (i0 : Nat) ∧ i0 ≤ 400 ∧ PlI W wr S T O (s', st.2) g5 c5 g6 c6 rs es (7 * (j - j) + 7) at_ j) (fun i _ => 1000 - (intOf i).toNat)
        case atStart => exact ⟨0, st.1, rfl, by omega, HI2.out⟩
        case round =>
          obtain ⟨i0, s', rfl, hi0, hi⟩ := hrel
          have HI3 := Lib.hid hi
          have hrl : rs.length ≤ 200 := by have h8 := HLEN.out; have h9 := hi.cnt; omega
          clear hi HI2 hpe hj2
          by_cases hie : i0 < es.length
          · obtain ⟨⟨ra, rb⟩, ⟨mb, m, ps⟩, hr, hx, he, hir⟩ := HI3.out.atR hie
            have hrc := HI3.out.p.root hr
            have p0 := hrc.1
            have p1 := hrc.2
            have q0 := HI3.out.p.map hx
            simp only at p0 p1 q0
            have hiI : (i0 : Int) < (es.length : Int) := by omega
            have hiI2 : (i0 : Int) < (rs.length : Int) := by omega
            have HE := Lib.hid he
            have HX := Lib.hid hx
            have l5 := HI3.out.p.lt5.2
            have l6 := HI3.out.p.lt6.2
            clear he hx hr hrc
            go_upto_region 61 with (fail)
            refine wp_region_up_tailG 9 (by kernel_rfl) (by kernel_rfl) (by kernel_rfl) ?_
            simp only [List.take_succ_cons, List.take_zero, List.drop_succ_cons, List.drop_zero]
            repeat (go_big_quiet_step (fail))
            refine wpQuiet_nil ?_
            rintro _ ⟨g2, rfl⟩
            go_wp2_with fail
            refine (same_any (HI3.out.up g2.h).p.l (shK_good.mono _ _ _ HI3.out.rdy (by omega)) (r := (ra, rb)) HE.out.tl HE.out.lst HE.out.small (HE.out.mp.off (S := fun _ => False) (Off.of_below g2.h) id) HE.out.out HE.out.ge).mono ?_
            rintro e w4 ⟨rfl, s4, hsm⟩
            have HI4 := Lib.hid ((HI3.out.up g2.h).same HX.out hsm)
            have hq20 : (rs.length : Int).tdiv 20 = ((rs.length / 20 : Nat) : Int) := rfl
            clear hsm p0 p1 q0 l5 l6 HI3 HE HX
            go_wp2
            go_roundw
            case rel => exact ⟨i0 + 1 + rs.length / 20, s4, by go_num, by omega, HI4.out⟩
            case measure => simp [intOf]; omega
          · obtain ⟨⟨ra, rb⟩, ⟨mb, m, ps⟩, hr, hx, he, hir⟩ := HI3.out.atR hat
            have hrc := HI3.out.p.root hr
            have p0 := hrc.1
            have p1 := hrc.2
            have q0 := HI3.out.p.map hx
            simp only at p0 p1 q0
            have hiI : ¬ (i0 : Int) < (rs.length : Int) := by have := HLEN.out; omega
            have hatI : (at_ : Int) < (es.length : Int) := by omega
            have hatI2 : (at_ : Int) < (rs.length : Int) := by omega
            have HE := Lib.hid he
            have HX := Lib.hid hx
            have l5 := HI3.out.p.lt5.2
            have l6 := HI3.out.p.lt6.2
            clear he hx hr hrc
            go_upto_region 63 with (fail)
            refine wp_region_up_tail 9 (by kernel_rfl) (by kernel_rfl) (by kernel_rfl) ?_
            simp only [List.take_succ_cons, List.take_zero, List.drop_succ_cons, List.drop_zero]
            repeat (go_big_quiet_step (fail))
            refine wpQuiet_nil ?_
            rintro _ ⟨g2, rfl⟩
            go_wp2_with fail
            refine (same_any (HI3.out.up g2.h).p.l (shK_good.mono _ _ _ HI3.out.rdy (by omega)) (r := (ra, rb)) HE.out.tl HE.out.lst HE.out.small (HE.out.mp.off (S := fun _ => False) (Off.of_below g2.h) id) HE.out.out HE.out.ge).mono ?_
            rintro e w4 ⟨rfl, s4, hsm⟩
            have HB4 := Lib.hid hsm.l.bel
            clear hsm p0 p1 q0 l5 l6 HI3 HE HX
            go_wp2
            go_ret
            exact ⟨rfl, HB4.out⟩

end Go.Proofs.Ytbmlggieifaniaa
