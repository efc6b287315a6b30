/- radix's laws: RadixEmpties, walked. -/
import Derived.Test.YtbmlggieifaniaaQc
namespace Go.Proofs.Ytbmlggieifaniaa
open Go.RowKit
set_option linter.unusedVariables false
set_option linter.unusedSimpArgs false

def mpU (b : Nat → PArg) : Nat → Mp
  | 0 => fun _ => none
  | j + 1 => upd (mpU b j) (b j).key.toNat (some (b j).L)
def mpD (b : Nat → PArg) (n t : Nat) : Nat → Mp
  | 0 => mpU b n
  | j + 1 => upd (mpD b n t j) (b ((j + t) % n)).key.toNat none
theorem mpU_key (b : Nat → PArg) : ∀ (j k : Nat), mpU b j k ≠ none → ∃ i, i < j ∧ (b i).key.toNat = k
  | 0, k, h => absurd rfl h
  | j + 1, k, h => by
    unfold mpU at h
    by_cases e : k = (b j).key.toNat
    · exact ⟨j, by omega, e.symm⟩
    · rw [upd_other _ _ _ e] at h
      obtain ⟨i, hi, h2⟩ := mpU_key b j k h
      exact ⟨i, by omega, h2⟩
theorem mpD_none (b : Nat → PArg) (n t : Nat) : ∀ (j k : Nat), (mpU b n k = none ∨ ∃ i, i < j ∧ (b ((i + t) % n)).key.toNat = k) → mpD b n t j k = none
  | 0, k, h => by
    rcases h with h | ⟨i, hi, _⟩
    · exact h
    · omega
  | j + 1, k, h => by
    unfold mpD
    by_cases e : k = (b ((j + t) % n)).key.toNat
    · rw [e, upd_same]
    · rw [upd_other _ _ _ e]
      refine mpD_none b n t j k ?_
      rcases h with h | ⟨i, hi, h2⟩
      · exact .inl h
      · refine .inr ⟨i, ?_, h2⟩
        rcases Nat.lt_or_ge i j with g | g
        · exact g
        · exfalso
          have : i = j := by omega
          subst this
          exact e h2.symm
theorem mpD_end (b : Nat → PArg) {n t : Nat} (hn : 0 < n) (ht : t < n) (k : Nat) : mpD b n t n k = none := by
  refine mpD_none b n t n k ?_
  by_cases h : mpU b n k = none
  · exact .inl h
  · obtain ⟨i, hi, h2⟩ := mpU_key b n k h
    refine .inr ⟨(i + (n - t)) % n, Nat.mod_lt _ hn, ?_⟩
    rw [Nat.mod_add_mod, show i + (n - t) + t = i + n by omega, Nat.add_mod_right, Nat.mod_eq_of_lt hi]
    exact h2
/-- A law's tree, the box of its root. -/
structure RtAt (W V : World) (S T g : Nat) (O : Nat → Prop) (st : ShS × Int) (r : Int × Int) : Prop where
  l : ShL W V S T O st
  box : BoxA V g r
  out : Out O T g
  ge : W.heap.size ≤ g
section
variable {W w w' V : World} {S T g g' : Nat} {O O' : Nat → Prop} {st st' : ShS × Int} {r r' : Int × Int} {n N : Nat} {G : Rdr → Int × Int → Prop} {e : Ending}
theorem RtAt.up (h : RtAt W w S T g O st r) (hb : Below w.heap.size w w') : RtAt W w' S T g O st r := ⟨h.l.up hb, h.box.off (S := fun _ => False) (Off.of_below hb) id, h.out, h.ge⟩
theorem ShL.offW {P : Nat → Prop} (h : ShL W w S T O st) (ho : Off P w w') (hP : ∀ k, P k → Out O T k ∧ W.heap.size ≤ k) : ShL W w' S T O st :=
  ⟨h.tr.off ho (fun k e => (hP k e).1.1) (fun e => (hP T e).1.2 rfl), h.hO, h.hT, h.inn, h.bel.trans (ho.below (fun k e => (hP k e).2) h.bel.size)⟩
/-- Behind a Set or a Delete: the tree, the elder box. -/
theorem SetOk.rt (h : RtAt W w S T g O st r) {w1 : World} (hb : Below w.heap.size w w1) (k : SetOk W w1 w' S T O O' st st' n N G r' e) : RtAt W w' S T g O' st' r :=
  ⟨k.l, (h.up hb).box.off k.off (fun e => e.elim h.out.1 h.out.2), out_next h.out k.hO (Nat.lt_of_lt_of_le h.box.lt hb.size), h.ge⟩
/-- The answer goes into a new box. -/
theorem RtAt.boxA (h : RtAt W w' S T g O' st' r) (r' : Int × Int) (t : TypeId) : RtAt W (w'.alloc (.cells #[.int .i64 r'.1, .int .i64 r'.2] t)) S T g O' st' r ∧ RtAt W (w'.alloc (.cells #[.int .i64 r'.1, .int .i64 r'.2] t)) S T w'.heap.size O' st' r' :=
  ⟨h.up ((Below.refl _ _).alloc (Nat.le_refl _) _), ⟨(h.l.box r' t).1, (h.l.box r' t).2.1, (h.l.box r' t).2.2, h.l.bel.size⟩⟩
/-- Into a box that lay there. -/
theorem RtAt.boxB (h : RtAt W w' S T g O' st' r) {r0 : Int × Int} (h2 : BoxA w' g' r0) (o2 : Out O' T g') (hg : W.heap.size ≤ g') (hne : g' ≠ g) (r' : Int × Int) :
    RtAt W ((w'.setCell ⟨g', 0, none⟩ (.int .i64 r'.1)).setCell ⟨g', 1, none⟩ (.int .i64 r'.2)) S T g O' st' r ∧ RtAt W ((w'.setCell ⟨g', 0, none⟩ (.int .i64 r'.1)).setCell ⟨g', 1, none⟩ (.int .i64 r'.2)) S T g' O' st' r' := by
  obtain ⟨e1, e2⟩ := h2.set r'
  have hl := h.l.offW e2 (fun k e => by cases e; exact ⟨o2, hg⟩)
  exact ⟨⟨hl, h.box.off e2 (fun e => hne e.symm), h.out, h.ge⟩, ⟨hl, e1, o2, hg⟩⟩
theorem bel0 (w : World) (r : Int × Int) (t : TypeId) : Below w.heap.size w (w.alloc (.cells #[.int .i64 r.1, .int .i64 r.2] t)).drew ∧ Below w.heap.size w w.drew ∧ BoxA (w.alloc (.cells #[.int .i64 r.1, .int .i64 r.2] t)).drew w.heap.size r :=
  ⟨((Below.refl _ _).alloc (Nat.le_refl _) _).drew, (Below.refl _ _).drew, (BoxA.new w t r).off (S := fun _ => False) ((Off.refl _ _).drew) id⟩
end
theorem SetOk.box0 {W w w' : World} {S T : Nat} {O O' : Nat → Prop} {st st' : ShS × Int} {r' : Int × Int} {n N : Nat} {G : Rdr → Int × Int → Prop} {e : Ending} {t : TypeId} (h : ShL W w S T O st) (k : SetOk W (w.alloc (.cells #[.int .i64 0, .int .i64 0] t)).drew w' S T O O' st st' n N G r' e) : BoxA w' w.heap.size (0, 0) ∧ Out O' T w.heap.size := by
  have hb := (bel0 w (0, 0) t).2.2
  have ho : Out O T w.heap.size := h.tr.outOf (Nat.le_refl _)
  exact ⟨hb.off k.off (fun e => e.elim ho.1 ho.2), out_next ho k.hO hb.lt⟩
theorem PArg.low {W : World} {A : Option Addr} {n c : Nat} {L : Bytes} (h : SBy W A n L) : VIn (fun b => b < W.heap.size) (.slice A n c) := fun b o n' c' e h0 => by
  cases e
  obtain ⟨g', o', e', hg', _⟩ := h.2 h0
  cases e'
  exact hg'
theorem tells_empty {rd : Rdr} {r : Int × Int} {m : Mp} (h : TellsR rd r m) (hm : ∀ k, m k = none) : r = (0, 0) := by
  rcases h with h | h
  · exact h.1
  · obtain ⟨k, hk⟩ := h.ex
    exact absurd (hm k) hk
/-- A turn: what is left of it. -/
theorem turn_of {t : Int} {n : Nat} (hn : 0 < n) : ∃ q : Nat, q < n ∧ ((0 ≤ t.tmod n ∧ t.tmod n = (q : Int)) ∨ (t.tmod n < 0 ∧ t.tmod n + n = (q : Int))) := by
  have h1 := Int.tmod_lt_of_pos t (b := (n : Int)) (by omega)
  have h2 : -(n : Int) < t.tmod n := by
    have := Int.tmod_lt_of_pos (-t) (b := (n : Int)) (by omega)
    rw [Int.neg_tmod] at this
    omega
  by_cases h : 0 ≤ t.tmod n
  · exact ⟨(t.tmod n).toNat, by omega, .inl ⟨h, by omega⟩⟩
  · exact ⟨(t.tmod n + n).toNat, by omega, .inr ⟨by omega, by omega⟩⟩
set_option maxRecDepth 100000 in
set_option maxHeartbeats 8000000 in
theorem empties_walk (W : World) {A : Option Addr} {n c : Nat} {b : Nat → PArg} (h : Prs W A n b) (hn : n ≤ 9223372036854775807) (t : Int) :
    Calls Try.prog 5 #[.slice A n c, .int .i64 t] W fun e w' => e = .returned (.bool true) ∧ Below W.heap.size W w' := by
  have HP := Lib.hid h
  clear h
  go_enter Try.func5, Try.ntmps5
  go_upto_region 3 with (go_at_call 8; refine (known_any _).mono ?_; rintro e w0 ⟨rfl, hb0⟩)
  have HB0 := Lib.hid hb0
  clear hb0
  by_cases hn60 : (60 : Int) < n
  · go_wp2
    go_ret
    exact ⟨rfl, HB0.out⟩
  have hd60 : decide ((60 : Int) < (n : Int)) = false := decide_eq_false hn60
  by_cases hn0 : n = 0
  · subst hn0
    go_wp2
    go_ret
    exact ⟨rfl, HB0.out⟩
  have hb00 : ((n : Int) == 0) = false := by simp; omega
  have hn00 : (n : Int) ≠ 0 := by omega
  obtain ⟨q, hq, hqt⟩ := turn_of (t := t) (n := n) (by omega)
  generalize hR : t.tmod n = R at hqt
  have hnI : (n : Int) ≤ 60 := by omega
  clear hn60
  go_upto_if 28 with (fail)
  have HQT := Lib.hid hqt
  clear hqt hR
  go_cut [1] from 28 to 32 (fun v w => v = .int .i64 (q : Nat) ∧ w = w0)
  case first =>
    rcases HQT.out with ⟨h1, h2⟩ | ⟨h1, h2⟩
    · have H2 := Lib.hid h2
      clear h2 HQT
      go_wp2_with fail
      go_meet
      exact ⟨by rw [H2.out], rfl⟩
    · have hw : IntKind.i64.wrap (R + (n : Int)) = R + (n : Int) := IntWalk.i64_in _ (by omega)
      have H2 := Lib.hid h2
      clear h2 HQT
      go_wp2_with fail
      go_meet
      exact ⟨by rw [← H2.out], rfl⟩
  case rest =>
  obtain ⟨rfl, rfl⟩ := hcut
  clear HQT
  go_upto_region 8 with (fail)
  go_upto_region 9 with (first
    | (go_at_call 10; refine (newShelf_any _).mono ?_; rintro e w1 hsh; have he1 := hsh.1; subst he1; have HSH := Lib.hid hsh; have HTN : Hid (Calls Try.prog 11 #[.iface 26 (.pointer (some ⟨wc.heap.size, 0, none⟩))] w1 (TrNew (shM wc.heap.size) w1 (· = wc.heap.size) sh0)) := Lib.hid (treeNew_any (M := shM wc.heap.size) (w := w1) (O := (· = wc.heap.size)) (s := sh0) (show (shM wc.heap.size).At w1 (· = wc.heap.size) sh0 from hsh.2.2.2)); clear hsh)
    | (go_at_call 11; refine HTN.out.mono ?_; rintro e w2 htn; have he2 := htn.1; subst he2; have HL := Lib.hid (shl_new HB0.out HSH.out htn); clear htn HTN HSH))
  obtain ⟨S, hS⟩ : ∃ S, wc.heap.size = S := ⟨_, rfl⟩
  obtain ⟨T, hT⟩ : ∃ T, w1.heap.size = T := ⟨_, rfl⟩
  rw [hS, hT] at HL
  rw [hT]
  clear hT HB0 hS
  go_upto_region 12 with (fail)
  refine wp_forget (fun V => RtAt W V S T w2.heap.size (· = S) (sh0, 0) (0, 0)) ⟨(HL.out.box (0, 0) 32).1, (HL.out.box (0, 0) 32).2.1, (HL.out.box (0, 0) 32).2.2, HL.out.bel.size⟩ ?_
  obtain ⟨g6, hg6⟩ : ∃ g, w2.heap.size = g := ⟨_, rfl⟩
  rw [hg6]
  clear hg6 HL
  rintro V hrt
  have HRT := Lib.hid hrt
  clear hrt
  go_wp2
  go_loopw [7] (fun i wr => ∃ (j : Nat) (O : Nat → Prop) (st : ShS × Int) (r : Int × Int), j ≤ n ∧ i = .int .i64 (j : Nat) ∧ RtAt W wr S T g6 O st r ∧ TellsR (shRd st.1.L) r (mpU b j) ∧ shK.Rdy st.1 (7 * (n - j) + 7 * n) ∧ st.1.full < 0 ∧ ∀ i, i < j → keyOk (b i).key) (fun i _ => n - (intOf i).toNat)
  case atStart => exact ⟨0, _, _, _, by omega, rfl, HRT.out, .inl ⟨rfl, fun _ => rfl⟩, sh0_rdy (by omega), by show (-1 : Int) < 0; omega, fun i hi => by omega⟩
  case round =>
    obtain ⟨j, O, st, ⟨ra, rb⟩, hj, rfl, hrt, htl, hrd, hfl, hok⟩ := hrel
    have HR := Lib.hid hrt
    have HTL := Lib.hid htl
    have HRD := Lib.hid hrd
    have HFL := Lib.hid hfl
    have HOK := Lib.hid hok
    clear hrt htl hrd hfl hok HRT
    by_cases hjn : j < n
    · obtain ⟨ga, oa, hAA, hgaW, hcsW⟩ := HP.out (by omega)
      have hinW := (hcsW j hjn).2.2
      obtain ⟨ga', oa', hAA', hga, hcs⟩ := (HP.out.up HR.out.l.bel) (by omega)
      rw [hAA] at hAA'
      cases hAA'
      subst hAA
      clear hcsW hgaW
      obtain ⟨k0, k1, kin⟩ := hcs j hjn
      obtain ⟨bj, hbj⟩ : ∃ x, b j = x := ⟨_, rfl⟩
      rw [hbj] at k0 k1 kin hinW
      have HBJ := Lib.hid hbj
      obtain ⟨ky, Ab, nb, cb, Lb⟩ := bj
      unfold PArg.v at k1
      have HIN := Lib.hid kin
      have HLOW := Lib.hid (PArg.low (c := cb) hinW.1)
      have hnb := kin.1.1
      simp only at k0 k1 hnb
      have hjI : (j : Int) < (n : Int) := by omega
      clear hcs kin hbj hinW
      by_cases hkk : keyOk ky
      case neg =>
        have hkd : decide (keyOk ky) = false := decide_eq_false hkk
        clear hkk
        go_wp2_with (go_at_call 9; refine (right9_any _ _).mono ?_; rintro e w9 ⟨rfl, rfl⟩; rw [hkd])
        go_ret
        exact ⟨rfl, HR.out.l.bel⟩
      have hkd : decide (keyOk ky) = true := decide_eq_true hkk
      by_cases hlb : (256 : Int) < (nb : Int)
      · clear hkk
        go_wp2_with (go_at_call 9; refine (right9_any _ _).mono ?_; rintro e w9 ⟨rfl, rfl⟩; rw [hkd])
        go_ret
        exact ⟨rfl, HR.out.l.bel⟩
      have hld : decide ((256 : Int) < (nb : Int)) = false := decide_eq_false hlb
      have hlb2 : Lb.length ≤ 256 := by omega
      clear hlb
      go_upto_region 17 with (go_at_call 9; refine (right9_any _ _).mono ?_; rintro e w9 ⟨rfl, rfl⟩; rw [hkd])
      obtain ⟨kn, hkn⟩ : ∃ k : Nat, ky = (k : Int) := ⟨ky.toNat, by have := hkk.1; omega⟩
      subst hkn
      have hkn : kn < 16777216 := by have := hkk.2; omega
      have hj1 : 7 * (n - j) + 7 * n = 7 * (n - (j + 1)) + 7 * n + 7 := by omega
      have HSET : Hid (∀ w', Below w9.heap.size w9 w' → Calls Try.prog 12 #[.pointer (some ⟨T, 0, none⟩), .agg #[.int .i64 ra, .int .i64 rb], .int .i64 (kn : Nat), .slice Ab nb cb] w' fun e w3 => ∃ O' st' r', SetOk W w' w3 S T O O' st st' (7 * (n - (j + 1)) + 7 * n) 6 (fun rd' r' => Tells rd' 0 0 r' (upd (mpU b j) kn (some Lb)) ∧ (mpU b j kn = some Lb → r' = (ra, rb))) r' e) := Lib.hid fun w' hb =>
        shl_set (HR.out.l.up hb) (by rw [← hj1]; exact HRD.out) HFL.out (r := (ra, rb)) HTL.out hkn (SlB.up ⟨_, _, _, rfl, HIN.out.2.1, HIN.out.1⟩ hb) hlb2 (HR.out.l.out HLOW.out)
      have b0 := HR.out.box.1
      have b1 := HR.out.box.2.1
      simp only at b0 b1
      have lb := HR.out.box.lt
      clear hkk hj1 hkd hld hlb2
      go_cut [8, 9] from 61 to 76 (fun s8 s9 V => ∃ (g8 : Nat) (O3 : Nat → Prop) (st3 : ShS × Int) (r3 : Int × Int), s8 = .pointer (some ⟨g8, 0, none⟩) ∧ s9 = .int .i64 0 ∧ RtAt W V S T g6 O3 st3 (ra, rb) ∧ RtAt W V S T g8 O3 st3 r3 ∧ shK.Rdy st3.1 (7 * (n - (j + 1)) + 7 * n) ∧ st3.1.full < 0 ∧ Tells (shRd st3.1.L) 0 0 r3 (upd (mpU b j) kn (some Lb)))
      case first =>
        go_region_law (first
          | (go_simp; go_at_call 12; (with_reducible refine (HSET.out _ (by first | exact (Below.refl _ _).drew | exact ((Below.refl _ _).alloc (Nat.le_refl _) _).drew)).mono ?_); rintro e w3 ⟨O3, st3, ⟨r3a, r3b⟩, hs⟩; have he3 := hs.e; subst he3; have HS3 := Lib.hid hs; (first | (have kb := SetOk.box0 HR.out.l hs; have y0 := kb.1.1; have y1 := kb.1.2.1; have z0 := kb.1.2.2 0; have z1 := kb.1.2.2 1; have HKB := Lib.hid kb; clear kb) | skip); clear hs))
        all_goals
          go_wp2_with fail
          go_meet
          first
            | exact ⟨_, O3, st3, (r3a, r3b), rfl, rfl, ((SetOk.rt HR.out (Below.refl _ _).drew HS3.out).boxA (r3a, r3b) 32).1, ((SetOk.rt HR.out (Below.refl _ _).drew HS3.out).boxA (r3a, r3b) 32).2, HS3.out.rdy, HS3.out.full, HS3.out.g.1⟩
            | exact ⟨_, O3, st3, (r3a, r3b), rfl, rfl, ((SetOk.rt HR.out ((Below.refl _ _).alloc (Nat.le_refl _) _).drew HS3.out).boxB HKB.out.1 HKB.out.2 HR.out.l.bel.size (by omega) (r3a, r3b)).1, ((SetOk.rt HR.out ((Below.refl _ _).alloc (Nat.le_refl _) _).drew HS3.out).boxB HKB.out.1 HKB.out.2 HR.out.l.bel.size (by omega) (r3a, r3b)).2, HS3.out.rdy, HS3.out.full, HS3.out.g.1⟩
      case rest =>
      obtain ⟨g8, O3, st3, ⟨r3a, r3b⟩, rfl, rfl, hr6, hr8, hrd3, hf3, ht3⟩ := hcut
      have H6 := Lib.hid hr6
      have HR3 := Lib.hid hrd3
      have HF3 := Lib.hid hf3
      have HT3 := Lib.hid ht3
      have p0 := hr8.box.1
      have p1 := hr8.box.2.1
      have lp := hr8.box.lt
      have u0 := hr6.box.1
      have u1 := hr6.box.2.1
      have z0 := hr6.box.2.2 0
      have z1 := hr6.box.2.2 1
      have lu := hr6.box.lt
      simp only at p0 p1 u0 u1
      have hne0 : ¬ (r3a, r3b) = ((0, 0) : Int × Int) := ht3.ne0
      have hq0 := fun w => eq_root r3a r3b w
      simp only [hne0, decide_false] at hq0
      clear hr6 hr8 hrd3 hf3 ht3 HSET b0 b1 lb hne0 k0 k1
      go_wp2
      go_roundw
      case rel =>
        refine ⟨j + 1, O3, st3, (r3a, r3b), by omega, by go_num, ⟨H6.out.l.offW (H6.out.box.set (r3a, r3b)).2 (fun k e => by cases e; exact ⟨H6.out.out, H6.out.ge⟩), (H6.out.box.set (r3a, r3b)).1, H6.out.out, H6.out.ge⟩, .inr ?_, HR3.out, HF3.out, fun i hi => ?_⟩
        · refine HT3.out.to (fun _ _ => id) (fun k => ?_)
          show upd (mpU b j) (b j).key.toNat (some (b j).L) k = _
          rw [HBJ.out]
          rfl
        · rcases Nat.lt_or_ge i j with g | g
          · exact HOK.out i g
          · obtain rfl : i = j := by omega
            rw [HBJ.out]
            exact ⟨by show (0 : Int) ≤ (kn : Int); omega, by show (kn : Int) < 16777216; omega⟩
      case measure => simp [intOf]; omega
    · obtain rfl : j = n := by omega
      have hjn2 : ¬ (j : Int) < (j : Int) := by omega
      have HR2 := Lib.hid HR.out
      clear HR
      go_wp2
      go_loopw [10] (fun i wr => ∃ (j2 : Nat) (O : Nat → Prop) (st : ShS × Int) (r : Int × Int), j2 ≤ j ∧ i = .int .i64 (j2 : Nat) ∧ RtAt W wr S T g6 O st r ∧ TellsR (shRd st.1.L) r (mpD b j q j2) ∧ shK.Rdy st.1 (7 * (j - j2)) ∧ st.1.full < 0) (fun i _ => j - (intOf i).toNat)
      case atStart => exact ⟨0, _, _, _, by omega, rfl, HR2.out, HTL.out, shK_good.mono _ _ _ HRD.out (by omega), HFL.out⟩
      case round =>
        obtain ⟨j2, O2, st2, ⟨ra2, rb2⟩, hj2, rfl, hrt, htl, hrd, hfl⟩ := hrel
        have HR := Lib.hid hrt
        have HTL2 := Lib.hid htl
        have HRD2 := Lib.hid hrd
        have HFL2 := Lib.hid hfl
        clear hrt htl hrd hfl HTL HRD HFL HR2 hjn hjn2
        have b0 := HR.out.box.1
        have b1 := HR.out.box.2.1
        simp only at b0 b1
        have lb := HR.out.box.lt
        by_cases hjn : j2 < j
        · obtain ⟨m, hm⟩ : ∃ m, (j2 + q) % j = m := ⟨_, rfl⟩
          have hml : m < j := by rw [← hm]; exact Nat.mod_lt _ (by omega)
          obtain ⟨ga, oa, rfl, hga, hcs⟩ := (HP.out.up HR.out.l.bel) (by omega)
          obtain ⟨k0, k1, kin⟩ := hcs m hml
          have hkk := HOK.out m hml
          obtain ⟨kn, hkn⟩ : ∃ k : Nat, (b m).key = (k : Int) := ⟨(b m).key.toNat, by have := hkk.1; omega⟩
          have hkn2 : kn < 16777216 := by have := hkk.2; omega
          rw [hkn] at k0
          have hjI : (j2 : Int) < (j : Int) := by omega
          have hsum : IntKind.i64.wrap ((j2 : Int) + (q : Int)) = ((j2 + q : Nat) : Int) := by
            rw [show ((j2 : Int) + (q : Int)) = ((j2 + q : Nat) : Int) by omega]
            exact IntWalk.i64_in _ (by omega)
          have hrem : (((j2 : Int) + (q : Int))).tmod (j : Int) = (m : Int) := by
            rw [← hm, show ((j2 : Int) + (q : Int)) = ((j2 + q : Nat) : Int) by omega]
            rfl
          have hmI : (m : Int) < (j : Int) := by omega
          have hdn : mpD b j q (j2 + 1) = upd (mpD b j q j2) kn none := by
            show upd (mpD b j q j2) (b ((j2 + q) % j)).key.toNat none = _
            rw [hm, hkn]
            rfl
          have HDN := Lib.hid hdn
          have hj1 : 7 * (j - j2) = 7 * (j - (j2 + 1)) + 7 := by omega
          have HDEL : Hid (∀ w', Below wr.heap.size wr w' → Calls Try.prog 14 #[.pointer (some ⟨T, 0, none⟩), .agg #[.int .i64 ra2, .int .i64 rb2], .int .i64 (kn : Nat)] w' fun e w3 => ∃ O' st' r', SetOk W w' w3 S T O2 O' st2 st' (7 * (j - (j2 + 1))) 7 (fun rd' r' => TellsR rd' r' (upd (mpD b j q j2) kn none) ∧ (mpD b j q j2 kn = none → r' = (ra2, rb2))) r' e) := Lib.hid fun w' hb =>
            shl_del (HR.out.l.up hb) (by rw [← hj1]; exact HRD2.out) HFL2.out (r := (ra2, rb2)) HTL2.out hkn2
          clear hcs kin hdn hkk hkn k1 hj1 hm
          go_upto_region 24 with (fail)
          go_cut [11, 12] from 91 to 106 (fun s8 s9 V => ∃ (g8 : Nat) (O3 : Nat → Prop) (st3 : ShS × Int) (r3 : Int × Int), s8 = .pointer (some ⟨g8, 0, none⟩) ∧ s9 = .int .i64 0 ∧ RtAt W V S T g6 O3 st3 (ra2, rb2) ∧ RtAt W V S T g8 O3 st3 r3 ∧ shK.Rdy st3.1 (7 * (j - (j2 + 1))) ∧ st3.1.full < 0 ∧ TellsR (shRd st3.1.L) r3 (upd (mpD b j q j2) kn none))
          case first =>
            go_region_law (first
              | (go_simp; go_at_call 14; (with_reducible refine (HDEL.out _ (by first | exact (Below.refl _ _).drew | exact ((Below.refl _ _).alloc (Nat.le_refl _) _).drew)).mono ?_); rintro e w3 ⟨O3, st3, ⟨r3a, r3b⟩, hs⟩; have he3 := hs.e; subst he3; have HS3 := Lib.hid hs; (first | (have kb := SetOk.box0 HR.out.l hs; have y0 := kb.1.1; have y1 := kb.1.2.1; have z0 := kb.1.2.2 0; have z1 := kb.1.2.2 1; have HKB := Lib.hid kb; clear kb) | skip); clear hs))
            all_goals
              go_wp2_with fail
              go_meet
              first
                | exact ⟨_, O3, st3, (r3a, r3b), rfl, rfl, ((SetOk.rt HR.out (Below.refl _ _).drew HS3.out).boxA (r3a, r3b) 32).1, ((SetOk.rt HR.out (Below.refl _ _).drew HS3.out).boxA (r3a, r3b) 32).2, HS3.out.rdy, HS3.out.full, HS3.out.g.1⟩
                | exact ⟨_, O3, st3, (r3a, r3b), rfl, rfl, ((SetOk.rt HR.out ((Below.refl _ _).alloc (Nat.le_refl _) _).drew HS3.out).boxB HKB.out.1 HKB.out.2 HR.out.l.bel.size (by omega) (r3a, r3b)).1, ((SetOk.rt HR.out ((Below.refl _ _).alloc (Nat.le_refl _) _).drew HS3.out).boxB HKB.out.1 HKB.out.2 HR.out.l.bel.size (by omega) (r3a, r3b)).2, HS3.out.rdy, HS3.out.full, HS3.out.g.1⟩
          case rest =>
          obtain ⟨g8, O3, st3, ⟨r3a, r3b⟩, rfl, rfl, hr6, hr8, hrd3, hf3, ht3⟩ := hcut
          have H6 := Lib.hid hr6
          have HR3 := Lib.hid hrd3
          have HF3 := Lib.hid hf3
          have HT3 := Lib.hid ht3
          have p0 := hr8.box.1
          have p1 := hr8.box.2.1
          have lp := hr8.box.lt
          have u0 := hr6.box.1
          have u1 := hr6.box.2.1
          have z0 := hr6.box.2.2 0
          have z1 := hr6.box.2.2 1
          have lu := hr6.box.lt
          simp only at p0 p1 u0 u1
          clear hr6 hr8 hrd3 hf3 ht3 HDEL b0 b1 lb k0
          go_wp2
          go_roundw
          case rel => exact ⟨j2 + 1, O3, st3, (r3a, r3b), by omega, by go_num, ⟨H6.out.l.offW (H6.out.box.set (r3a, r3b)).2 (fun k e => by cases e; exact ⟨H6.out.out, H6.out.ge⟩), (H6.out.box.set (r3a, r3b)).1, H6.out.out, H6.out.ge⟩, by rw [HDN.out]; exact HT3.out, HR3.out, HF3.out⟩
          case measure => simp [intOf]; omega
        · obtain rfl : j2 = j := by omega
          have hz := tells_empty HTL2.out (fun k => mpD_end b (by omega) hq k)
          have hq0 := fun w => eq_root ra2 rb2 w
          simp only [hz, decide_true] at hq0
          have hzz := hz
          cases hzz
          have HBL := Lib.hid HR.out.l.bel
          clear hz
          go_wp2
          go_ret
          exact ⟨rfl, HBL.out⟩
end Go.Proofs.Ytbmlggieifaniaa
