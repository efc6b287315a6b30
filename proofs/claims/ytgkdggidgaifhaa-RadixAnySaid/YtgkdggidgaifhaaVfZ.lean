/- radix's laws: RadixAny, walked. -/
import Derived.Test.YtgkdggidgaifhaaMV
import Derived.Deep.CutBlock
namespace Go.Proofs.Ytgkdggidgaifhaa
open Go.RowKit Go.Maps
set_option linter.unusedVariables false
set_option linter.unusedSimpArgs false
section
variable {W w w' : World} {S T g gR g' : Nat} {O O' : Nat → Prop} {st st' : ShS × Int} {r ro r' r0 : Int × Int} {n N : Nat} {G : Rdr → Int × Int → Prop} {e : Ending}
theorem any_setA (h : RtAt W w S T g O st r) (h2 : RtAt W w S T gR O st ro) {w1 : World} (hb : Below w.heap.size w w1) (k : SetOk W w1 w' S T O O' st st' n N G r' e) (t : TypeId) :
    RtAt W (w'.alloc (.cells #[.int .i64 r'.1, .int .i64 r'.2] t)) S T g O' st' r ∧ RtAt W (w'.alloc (.cells #[.int .i64 r'.1, .int .i64 r'.2] t)) S T gR O' st' ro ∧ RtAt W (w'.alloc (.cells #[.int .i64 r'.1, .int .i64 r'.2] t)) S T w'.heap.size O' st' r' :=
  ⟨((SetOk.rt h hb k).boxA r' t).1, ((SetOk.rt h2 hb k).boxA r' t).1, ((SetOk.rt h hb k).boxA r' t).2⟩
theorem any_setB (h : RtAt W w S T g O st r) (h2 : RtAt W w S T gR O st ro) {w1 : World} (hb : Below w.heap.size w w1) (k : SetOk W w1 w' S T O O' st st' n N G r' e) (hx : BoxA w' g' r0) (ox : Out O' T g') (hg : g' = w.heap.size) :
    RtAt W ((w'.setCell ⟨g', 0, none⟩ (.int .i64 r'.1)).setCell ⟨g', 1, none⟩ (.int .i64 r'.2)) S T g O' st' r ∧ RtAt W ((w'.setCell ⟨g', 0, none⟩ (.int .i64 r'.1)).setCell ⟨g', 1, none⟩ (.int .i64 r'.2)) S T gR O' st' ro ∧ RtAt W ((w'.setCell ⟨g', 0, none⟩ (.int .i64 r'.1)).setCell ⟨g', 1, none⟩ (.int .i64 r'.2)) S T g' O' st' r' := by
  have l1 := h.box.lt
  have l2 := h2.box.lt
  have l3 := h.l.bel.size
  exact ⟨((SetOk.rt h hb k).boxB hx ox (by omega) (by omega) r').1, ((SetOk.rt h2 hb k).boxB hx ox (by omega) (by omega) r').1, ((SetOk.rt h hb k).boxB hx ox (by omega) (by omega) r').2⟩
end
/-- A walk that never panics. -/
def noPanic (Q : Exit → Act → World → Prop) : Exit → Act → World → Prop
  | .panic _, _, _ => False
  | e, a, w => Q e a w
theorem wp_noPanic {P : Program} {c : Code} {Q : Exit → Act → World → Prop} {a : Act} {w : World} (h : c.wp P (noPanic Q) a w) : c.wp P Q a w :=
  Go.wp_mono h fun e a w q => by
    cases e with
    | panic _ => exact q.elim
    | normal => exact q
    | exit id => exact q
    | goto l => exact q
    | ret => exact q
    | outgrown => exact q
set_option maxRecDepth 100000 in
set_option maxHeartbeats 16000000 in
theorem any_walk (W : World) {A : Option Addr} {n c : Nat} {b : Nat → PArg} (h : Prs W A n b) (hn : n ≤ 9223372036854775807) (bad : Int) {Ao : Option Addr} {no co : Nat} {Lo : Bytes} (hv : SBy W Ao no Lo) (hco : no ≤ co) (ro : Int × Int) (key : Int) :
    Calls Try.prog 6 #[.slice A n c, .int .i64 bad, .slice Ao no co, .agg #[.int .i64 ro.1, .int .i64 ro.2], .int .i64 key] W fun e w' => e = .returned (.bool true) ∧ Below W.heap.size W w' := by
  obtain ⟨roa, rob⟩ := ro
  have HP := Lib.hid h
  have HV := Lib.hid hv
  have hno := hv.1
  clear h hv
  refine (callsIn_wide (n := 9)).1 ?_
  refine callsIn_of_wp_marks Try.func6 rfl trivial ?_ rfl
  simp only [Try.ntmps6, List.size_toArray, List.length_cons, List.length_nil, Nat.reduceAdd, Nat.reduceSub, Array.replicate_succ, Array.replicate_zero, List.push_toArray, List.append_toArray, List.nil_append, List.cons_append]
  refine wpIn_wide.2 ?_
  refine wp_noPanic ?_
  go_upto_region 1 with (fail)
  refine wp_forget (fun V => Below W.heap.size W V ∧ BoxA V W.heap.size (roa, rob)) ⟨(Below.refl _ _).alloc (Nat.le_refl _) _, BoxA.new W 30 (roa, rob)⟩ ?_
  rintro V0 ⟨hb0, hx0⟩
  have HB0 := Lib.hid hb0
  have HX0 := Lib.hid hx0
  clear hb0 hx0
  go_upto_region 3 with (go_at_call 20; refine (known_any _).mono ?_; rintro e w0 ⟨rfl, hb0⟩)
  have HX1 := Lib.hid (HX0.out.off (S := fun _ => False) (Off.of_below hb0) id)
  have HB1 := Lib.hid (HB0.out.trans (hb0.mono HB0.out.size))
  clear hb0 HB0 HX0
  by_cases hn60 : (60 : Int) < n
  · go_wp2
    exact any_end0 HB1.out rfl
  have hd60 : decide ((60 : Int) < (n : Int)) = false := decide_eq_false hn60
  by_cases hlv : (4000 : Int) < (no : Int)
  · go_wp2
    exact any_end0 HB1.out rfl
  have hlvd : decide ((4000 : Int) < (no : Int)) = false := decide_eq_false hlv
  have hnI : (n : Int) ≤ 60 := by omega
  have hlo : Lo.length ≤ 4000 := by omega
  clear hn60 hlv
  go_upto_region 7 with (first
    | (go_at_call 10; refine (newShelf_any _).mono ?_; rintro e w1 hsh; have he1 := hsh.1; subst he1; have HSH := Lib.hid hsh; have HTN : Hid (Calls Try.prog 9 #[.iface 27 (.pointer (some ⟨w0.heap.size, 0, none⟩))] w1 (TrNew (shM w0.heap.size) w1 (· = w0.heap.size) sh0)) := Lib.hid (treeNew_any (M := shM w0.heap.size) (w := w1) (O := (· = w0.heap.size)) (s := sh0) (show (shM w0.heap.size).At w1 (· = w0.heap.size) sh0 from hsh.2.2.2)); clear hsh)
    | (go_at_call 9; refine HTN.out.mono ?_; rintro e w2 htn; have he2 := htn.1; subst he2; have HL := Lib.hid (shl_new HB1.out HSH.out htn); have HX2 := Lib.hid ((HX1.out.off (S := fun _ => False) (Off.of_below HSH.out.2.1) id).off (S := fun _ => False) (Off.of_below htn.2.1) id); have HSZ := Lib.hid (show w1.heap.size = w0.heap.size + 1 from HSH.out.2.2.1); clear htn HTN HSH))
  have hgS : W.heap.size < w0.heap.size := HX1.out.lt
  have HT2 := Lib.hid HX2.out.lt
  obtain ⟨S, hS⟩ : ∃ S, w0.heap.size = S := ⟨_, rfl⟩
  obtain ⟨T, hT⟩ : ∃ T, w1.heap.size = T := ⟨_, rfl⟩
  have hgT : W.heap.size < T := by have := HX1.out.lt; have := HL.out.tr.lt; have := HL.out.hT; have := HSZ.out; omega
  rw [hS, hT] at HL
  rw [hS] at hgS
  rw [hS, hT]
  clear hT hS HX1 HSZ HB1 HT2
  go_upto_region 10 with (fail)
  have hstart : RtAt W (w2.alloc (.cells #[.int .i64 0, .int .i64 0] 30)) S T w2.heap.size (· = S) (sh0, 0) (0, 0) ∧ RtAt W (w2.alloc (.cells #[.int .i64 0, .int .i64 0] 30)) S T W.heap.size (· = S) (sh0, 0) (roa, rob) :=
    ⟨⟨(HL.out.box (0, 0) 30).1, (HL.out.box (0, 0) 30).2.1, (HL.out.box (0, 0) 30).2.2, HL.out.bel.size⟩, ⟨(HL.out.box (0, 0) 30).1, HX2.out.off (S := fun _ => False) (Off.of_below ((Below.refl _ _).alloc (Nat.le_refl _) _)) id, ⟨by omega, by omega⟩, Nat.le_refl _⟩⟩
  refine wp_forget (fun V => RtAt W V S T w2.heap.size (· = S) (sh0, 0) (0, 0) ∧ RtAt W V S T W.heap.size (· = S) (sh0, 0) (roa, rob)) hstart ?_
  have hgg : w2.heap.size ≠ W.heap.size := by have := HX2.out.lt; omega
  obtain ⟨g13, hg13⟩ : ∃ g, w2.heap.size = g := ⟨_, rfl⟩
  obtain ⟨gR, hgR⟩ : ∃ g, W.heap.size = g := ⟨_, rfl⟩
  rw [hg13, hgR] at hgg
  rw [hg13, hgR]
  have HGR := Lib.hid hgR
  clear hg13 hgR hstart HL HX2 hgS hgT
  rintro V ⟨hrt, hrx⟩
  have HRT := Lib.hid hrt
  have HRX := Lib.hid hrx
  clear hrt hrx
  go_wp2
  go_loopw [14] (fun i wr => ∃ (j : Nat) (O : Nat → Prop) (st : ShS × Int) (r : Int × Int), j ≤ n ∧ i = .int .i64 (j : Nat) ∧ RtAt W wr S T g13 O st r ∧ RtAt W wr S T gR O st (roa, rob) ∧ TellsR (shRd st.1.L) r (mpU b j) ∧ shK.Rdy st.1 (7 * (n - j) + 60) ∧ st.1.full < 0) (fun i _ => n - (intOf i).toNat)
  case atStart => exact ⟨0, _, _, _, by omega, rfl, HRT.out, HRX.out, .inl ⟨rfl, fun _ => rfl⟩, sh0_rdy (by omega), by show (-1 : Int) < 0; omega⟩
  case round =>
    obtain ⟨j, O, st, ⟨ra, rb⟩, hj, rfl, hrt, hrx, htl, hrd, hfl⟩ := hrel
    have HR := Lib.hid hrt
    have HX := Lib.hid hrx
    have HTL := Lib.hid htl
    have HRD := Lib.hid hrd
    have HFL := Lib.hid hfl
    clear hrt hrx htl hrd hfl HRT HRX
    by_cases hjn : j < n
    · -- first
      obtain ⟨ga, oa, hAA, hgaW, hcsW⟩ := HP.out (by omega)
      have hinW := (hcsW j hjn).2.2
      obtain ⟨ga', oa', hAA', hga, hcs⟩ := (HP.out.up HR.out.l.bel) (by omega)
      rw [hAA] at hAA'
      cases hAA'
      subst hAA
      clear hcsW hgaW
      obtain ⟨k0, k1, kin⟩ := hcs j hjn
      obtain ⟨bj, hbj⟩ : ∃ x, b j = x := ⟨_, rfl⟩
      rw [hbj] at k0 k1 kin hinW
      have HBJ := Lib.hid hbj
      obtain ⟨ky, Ab, nb, cb, Lb⟩ := bj
      unfold PArg.v at k1
      have HIN := Lib.hid kin
      have HLOW := Lib.hid (PArg.low (c := cb) hinW.1)
      have hnb := kin.1.1
      simp only at k0 k1 hnb
      have hjI : (j : Int) < (n : Int) := by omega
      clear hcs kin hbj hinW
      by_cases hkk : keyOk ky
      case neg =>
        have hkd : decide (keyOk ky) = false := decide_eq_false hkk
        clear hkk
        go_wp2_with (go_at_call 21; refine (right9_any _ _).mono ?_; rintro e w9 ⟨rfl, rfl⟩; rw [hkd])
        exact any_end0 HR.out.l.bel rfl
      have hkd : decide (keyOk ky) = true := decide_eq_true hkk
      by_cases hlb : (256 : Int) < (nb : Int)
      · clear hkk
        go_wp2_with (go_at_call 21; refine (right9_any _ _).mono ?_; rintro e w9 ⟨rfl, rfl⟩; rw [hkd])
        exact any_end0 HR.out.l.bel rfl
      have hld : decide ((256 : Int) < (nb : Int)) = false := decide_eq_false hlb
      have hlb2 : Lb.length ≤ 256 := by omega
      clear hlb
      go_upto_region 15 with (go_at_call 21; refine (right9_any _ _).mono ?_; rintro e w9 ⟨rfl, rfl⟩; rw [hkd])
      obtain ⟨kn, hkn⟩ : ∃ k : Nat, ky = (k : Int) := ⟨ky.toNat, by have := hkk.1; omega⟩
      subst hkn
      have hkn : kn < 16777216 := by have := hkk.2; omega
      have hj1 : 7 * (n - j) + 60 = 7 * (n - (j + 1)) + 60 + 7 := by omega
      have HSET : Hid (∀ w', Below w9.heap.size w9 w' → Calls Try.prog 22 #[.pointer (some ⟨T, 0, none⟩), .agg #[.int .i64 ra, .int .i64 rb], .int .i64 (kn : Nat), .slice Ab nb cb] w' fun e w3 => ∃ O' st' r', SetOk W w' w3 S T O O' st st' (7 * (n - (j + 1)) + 60) 6 (fun rd' r' => Tells rd' 0 0 r' (upd (mpU b j) kn (some Lb)) ∧ (mpU b j kn = some Lb → r' = (ra, rb))) r' e) := Lib.hid fun w' hb =>
        shl_set (HR.out.l.up hb) (by rw [← hj1]; exact HRD.out) HFL.out (r := (ra, rb)) HTL.out hkn (SlB.up ⟨_, _, _, rfl, HIN.out.2.1, HIN.out.1⟩ hb) hlb2 (HR.out.l.out HLOW.out)
      have b0 := HR.out.box.1
      have b1 := HR.out.box.2.1
      simp only at b0 b1
      have lb := HR.out.box.lt
      clear hkk hj1 hkd hld hlb2
      go_cut [15, 16] from 66 to 81 (fun s8 s9 V => ∃ (g8 : Nat) (O3 : Nat → Prop) (st3 : ShS × Int) (r3 : Int × Int), s8 = .pointer (some ⟨g8, 0, none⟩) ∧ s9 = .int .i64 0 ∧ RtAt W V S T g13 O3 st3 (ra, rb) ∧ RtAt W V S T gR O3 st3 (roa, rob) ∧ RtAt W V S T g8 O3 st3 r3 ∧ shK.Rdy st3.1 (7 * (n - (j + 1)) + 60) ∧ st3.1.full < 0 ∧ Tells (shRd st3.1.L) 0 0 r3 (upd (mpU b j) kn (some Lb)))
      case first =>
        go_region_law (first
          | (go_simp; go_at_call 22; (with_reducible refine (HSET.out _ (by first | exact (Below.refl _ _).drew | exact ((Below.refl _ _).alloc (Nat.le_refl _) _).drew)).mono ?_); rintro e w3 ⟨O3, st3, ⟨r3a, r3b⟩, hs⟩; have he3 := hs.e; subst he3; have HS3 := Lib.hid hs; (first | (have kb := SetOk.box0 HR.out.l hs; have y0 := kb.1.1; have y1 := kb.1.2.1; have z0 := kb.1.2.2 0; have z1 := kb.1.2.2 1; have HKB := Lib.hid kb; clear kb) | skip); clear hs))
        all_goals
          go_wp2_with fail
          go_meet
          first
            | (obtain ⟨q1, q2, q3⟩ := any_setA HR.out HX.out (Below.refl _ _).drew HS3.out 30; exact ⟨_, O3, st3, (r3a, r3b), rfl, rfl, q1, q2, q3, HS3.out.rdy, HS3.out.full, HS3.out.g.1⟩)
            | (obtain ⟨q1, q2, q3⟩ := any_setB HR.out HX.out ((Below.refl _ _).alloc (Nat.le_refl _) _).drew HS3.out HKB.out.1 HKB.out.2 rfl; exact ⟨_, O3, st3, (r3a, r3b), rfl, rfl, q1, q2, q3, HS3.out.rdy, HS3.out.full, HS3.out.g.1⟩)
      case rest =>
      obtain ⟨g8, O3, st3, ⟨r3a, r3b⟩, rfl, rfl, hr6, hrx, hr8, hrd3, hf3, ht3⟩ := hcut
      have H6 := Lib.hid hr6
      have HX6 := Lib.hid hrx
      have HR3 := Lib.hid hrd3
      have HF3 := Lib.hid hf3
      have HT3 := Lib.hid ht3
      have p0 := hr8.box.1
      have p1 := hr8.box.2.1
      have lp := hr8.box.lt
      have u0 := hr6.box.1
      have u1 := hr6.box.2.1
      have z0 := hr6.box.2.2 0
      have z1 := hr6.box.2.2 1
      have lu := hr6.box.lt
      simp only at p0 p1 u0 u1
      clear hr6 hrx hr8 hrd3 hf3 ht3 HSET b0 b1 lb k0 k1
      go_wp2
      go_roundw
      case rel =>
        have hset := H6.out.box.set (r3a, r3b)
        have hl := H6.out.l.offW hset.2 (fun k e => by cases e; exact ⟨H6.out.out, H6.out.ge⟩)
        refine ⟨j + 1, O3, st3, (r3a, r3b), by omega, by go_num, ⟨hl, hset.1, H6.out.out, H6.out.ge⟩, ⟨hl, HX6.out.box.off hset.2 (fun e => hgg e.symm), HX6.out.out, HX6.out.ge⟩, .inr ?_, HR3.out, HF3.out⟩
        refine HT3.out.to (fun _ _ => id) (fun k => ?_)
        show upd (mpU b j) (b j).key.toNat (some (b j).L) k = _
        rw [HBJ.out]
        rfl
      case measure => simp [intOf]; omega
    · obtain rfl : j = n := by omega
      have hjn2 : ¬ (j : Int) < (j : Int) := by omega
      have hmd := md_of HR.out HX.out (shK_good.mono _ _ _ HRD.out (by omega)) HFL.out
      have hjj := hnI
      clear hjn HP HTL HRD HFL HR HX
      obtain ⟨O2, hO2⟩ : ∃ O2 : Nat → Prop, O2 = (fun k => O k ∨ k < W.heap.size) := ⟨_, rfl⟩
      rw [← hO2] at hmd
      clear hO2
      obtain ⟨rv, vs, ov, h1, h2, h3, h4, h5, h6, h7⟩ : ShX W S wr O2 st.1 := hmd.l.tr.at_
      obtain ⟨Ar, cr, hrv⟩ : ∃ Ar cr, rv = .slice Ar vs.length cr := by
        rcases h1.row.2 with ⟨rfl, h0⟩ | ⟨g, cap, cur, rfl, _⟩
        · exact ⟨_, _, by rw [h0]⟩
        · exact ⟨_, _, rfl⟩
      have HMD := Lib.hid hmd
      have HI := Lib.hid h1
      have HH := Lib.hid (And.intro h3 h5)
      have q0 := h1.c0
      have f0 := h1.fr 0
      have lS := h1.lt
      have hlen := h1.len
      have HLEN := Lib.hid hlen
      have HROW := Lib.hid h1.row
      have HVV := Lib.hid hrv
      rw [hrv] at q0
      clear hmd h1 h2 h3 h4 h5 h6 h7 hlen hrv
      go_upto_if 90 with (fail)
      go_cut [] from 85 to 100 (fun V => ∃ (O3 : Nat → Prop) (st3 : ShS × Int), Md W V S T g13 gR O3 st3 (ra, rb) (roa, rob) ∧ 0 < st3.1.L.length)
      case first =>
        by_cases h0 : vs.length = 0
        · have hb : ((vs.length : Int) == 0) = true := by simp [h0]
          obtain rfl : vs = [] := List.length_eq_zero_iff.1 h0
          obtain ⟨w3, hw3⟩ : ∃ w3, w3 = wr.alloc (.cells #[.slice Ao no co] 38) := ⟨_, rfl⟩
          have ho3 : Off (fun _ => False) wr w3 := by rw [hw3]; exact Off.of_below ((Below.refl _ _).alloc (Nat.le_refl _) _)
          have hc3 : w3.cell? ⟨wr.heap.size, 0, none⟩ = some (.slice Ao no co) := by rw [hw3, cell_of_row _ _ _ _ _ _ (heap_alloc_new wr _)]; rfl
          obtain ⟨v', w4, hr, hrow, hg, hat⟩ := run_appR (rv := rv) (vs := []) (row_off HROW.out ho3 (fun _ _ => id)) hc3 (by simp) 61
          obtain ⟨A5, n5, c5, hv5⟩ : ∃ A2 n2 c2, v' = .slice A2 n2 c2 := by
            rcases hrow.2 with ⟨rfl, _⟩ | ⟨g, cap, cur, rfl, _⟩
            · exact ⟨_, _, _, rfl⟩
            · exact ⟨_, _, _, rfl⟩
          subst hv5
          have hl3 : S < w3.heap.size := Nat.lt_of_lt_of_le lS ho3.size
          have q5 := ((grown_off hg).cell (p := ⟨S, 0, none⟩) hl3 HI.out.neR).trans ((ho3.cell (p := ⟨S, 0, none⟩) lS id).trans q0)
          have f5 := ((grown_off hg).frozen (p := ⟨S, 0, none⟩) hl3 HI.out.neR).trans ((ho3.frozen (p := ⟨S, 0, none⟩) lS id).trans f0)
          have hput := md_put (t := 38) HMD.out HI.out HH.out.1 HH.out.2 HV.out hco hlo hrow (by rw [← hw3]; exact hg) (by rw [← hw3]; exact hat)
          obtain ⟨O4, hput⟩ := hput
          have HPUT := Lib.hid hput
          have lS4 := lt_of_cell q5
          rw [hw3, HVV.out] at hr
          simp only [List.length_nil] at hr q0 q5
          clear hw3 hrow hg hat hput ho3 hc3 hl3 h0
          go_wp2_with (at_builtin; go_must (refine wpList_append_run rfl (.tmp 95) (.tmp 97) 61 rfl _ _ rfl rfl hr ?_))
          go_meet
          exact ⟨_, _, HPUT.out, by show 0 < ([Lo] : List Bytes).length; simp⟩
        · have hb : ((vs.length : Int) == 0) = false := by
            have : (vs.length : Int) ≠ 0 := by omega
            simpa using this
          have HZ := Lib.hid h0
          clear h0
          go_wp2_with fail
          go_meet
          exact ⟨_, _, HMD.out, Nat.pos_of_ne_zero (fun e => HZ.out (HLEN.out.trans e))⟩
      case rest =>
      obtain ⟨O3, st3, hmd3, hL3⟩ := hcut
      clear HMD HI HH HLEN HROW HVV q0 f0 lS
      have hrow3 := ShX.items hmd3.l.tr.at_
      obtain ⟨m, hm⟩ : ∃ m, m = st3.1.L.length := ⟨_, rfl⟩
      rw [← hm] at hL3 hrow3
      obtain ⟨A3, c3, q0, f0, q1, q2, hitm⟩ := hrow3
      have lS := lt_of_cell q0
      have f1 := f0 1
      have f2 := f0 2
      have hmb : m ≤ 2147483647 := by have := hmd3.rdy.1; omega
      have HM3 := Lib.hid hm
      have HMD3 := Lib.hid hmd3
      have HIT := Lib.hid hitm
      have HF0 := Lib.hid f0
      obtain ⟨⟨A2, n2, c2⟩, q2'⟩ : ∃ x : Option Addr × Nat × Nat, wc.cell? ⟨S, 2, none⟩ = some (.slice x.1 x.2.1 x.2.2) := q2
      simp only at q2'
      have hn00 : (m : Int) ≠ 0 := by omega
      obtain ⟨q, hq, hqt⟩ := turn_of (t := bad) (n := m) hL3
      generalize hR : bad.tmod m = R at hqt
      clear hmd3 hm hitm f0
      go_upto_if 109 with (fail)
      have HQT := Lib.hid hqt
      clear hqt hR
      obtain ⟨wv, hwv⟩ : ∃ V, V = wc := ⟨_, rfl⟩
      rw [← hwv]
      rw [← hwv] at q0 q1 q2' f1 f2 lS HMD3 HIT HF0
      clear hwv
      go_cut [1] from 101 to 116 (fun v V => v = .int .i64 (q : Nat) ∧ V = wv)
      case first =>
        rcases HQT.out with ⟨h1, h2⟩ | ⟨h1, h2⟩
        · have H2 := Lib.hid h2
          clear h2 HQT
          go_wp2_with fail
          go_meet
          exact ⟨by rw [H2.out], rfl⟩
        · have hw : IntKind.i64.wrap (R + (m : Int)) = R + (m : Int) := IntWalk.i64_in _ (by omega)
          have H2 := Lib.hid h2
          clear h2 HQT
          go_wp2_with fail
          go_meet
          exact ⟨by rw [← H2.out], rfl⟩
      case rest =>
      obtain ⟨rfl, rfl⟩ := hcut
      clear HQT
      go_upto_region 26 with (fail)
      refine wp_forget (fun V => Md W V S T g13 gR O3 ({ st3.1 with bad := (q : Int), other := Lo }, st3.2) (ra, rb) (roa, rob)) (md_bad HMD3.out (by rw [← HM3.out]; exact hq) HV.out hco hlo) ?_
      clear q0 q1 q2' f1 f2 lS HMD3 HIT HF0 hn00
      rintro V hmd
      have HMD := Lib.hid hmd
      obtain ⟨A4, c4, q0, _, _, _, hit⟩ := ShX.items hmd.l.tr.at_
      obtain ⟨gr, Aq, nq, cq, rfl, k0, hnq, lgr⟩ := hit q (by show q < st3.1.L.length; rw [← HM3.out]; exact hq)
      rw [show List.length ({ st3.1 with bad := (q : Int), other := Lo } : ShS).L = m from HM3.out.symm] at q0
      have b0 := hmd.b1.1
      have b1 := hmd.b1.2.1
      have b2 := hmd.b2.1
      have b3 := hmd.b2.2.1
      have l13 := hmd.b1.lt
      have lR := hmd.b2.lt
      have lS := lt_of_cell q0
      have hqI : (q : Int) < (m : Int) := by omega
      simp only at b0 b1 b2 b3
      clear hmd hit
      go_region_held3 (fun w' => w'.cell? ⟨g13, 0, none⟩ = some (.int .i64 ra) ∧ w'.cell? ⟨g13, 1, none⟩ = some (.int .i64 rb) ∧ w'.cell? ⟨gR, 0, none⟩ = some (.int .i64 roa) ∧ w'.cell? ⟨gR, 1, none⟩ = some (.int .i64 rob) ∧ w'.cell? ⟨S, 0, none⟩ = some (.slice (some ⟨gr, 0, none⟩) m c4) ∧ w'.cell? ⟨gr, q, none⟩ = some (.slice Aq nq cq))
        (go_keep) (fail)
      obtain ⟨bx, hbx⟩ : ∃ bx : Int × Int, bx = (IntKind.i64.wrap ((q : Int) + 1), IntKind.i64.wrap (13 + (nq : Int))) := ⟨_, rfl⟩
      have HBX := Lib.hid hbx
      clear hbx
      go_upto_region 27 with (fail)
      refine wp_forget (fun V' => Kp W V' S T V.heap.size (rho (ra, rb) (roa, rob) bx) [] O3 ({ st3.1 with bad := (q : Int), other := Lo }, st3.2)) (by rw [HBX.out]; exact kp_start (bx := (IntKind.i64.wrap ((q : Int) + 1), IntKind.i64.wrap (13 + (nq : Int)))) (t := 30) HMD.out) ?_
      have HRD := Lib.hid (show shK.Rdy ({ st3.1 with bad := (q : Int), other := Lo } : ShS) 50 from HMD.out.rdy)
      obtain ⟨G, hG⟩ : ∃ G, V.heap.size = G := ⟨_, rfl⟩
      obtain ⟨st4, hst4⟩ : ∃ st4 : ShS × Int, ({ st3.1 with bad := (q : Int), other := Lo }, st3.2) = st4 := ⟨_, rfl⟩
      have hst5 : ({ st3.1 with bad := (q : Int), other := Lo } : ShS) = st4.1 := by rw [← hst4]
      rw [hst4, hG]
      rw [hst5] at HRD
      generalize rho (ra, rb) (roa, rob) bx = ρ
      clear hst4 hst5 hG HBX HMD q0 k0 b0 b1 b2 b3 HM3 hnq lgr l13 lR lS
      rintro V4 hkp
      have HKP := Lib.hid hkp
      clear hkp
      go_wp2
      refine wp_loop (RdI W S T G ρ key) (fun a' _ => 3 - (intOf (a'.tmps.getD 18 undef)).toNat) ?start ?round
      case start => exact ⟨_, [], 0, O3, st4, rfl, rfl, rfl, rfl, rfl, rfl, rfl, by omega, HKP.out, shK_good.mono _ _ _ HRD.out (by omega)⟩
      case round =>
        rintro a wr ⟨A9, Ds, j, O, st, rfl, hsz, t4, t11, t12, t17, t18, hj3, hkp, hrd⟩
        obtain ⟨t, rfl, ht⟩ := arr_lit hsz
        rw [← ht] at t4 t11 t12 t17 t18
        rw [t4, t11, t12, t17, t18]
        have HKP := Lib.hid hkp
        have HRD := Lib.hid hrd
        clear hkp hrd ht hsz
        by_cases hj : j < 3
        · have hjI : (j : Int) < 3 := by omega
          obtain ⟨c4, f4, _⟩ := ShX.cells HKP.out.l.tr.at_
          have lS := lt_of_cell c4
          go_upto_region 31 with (fail)
          refine wp_forget (fun V => Kp W V S T G ρ Ds O ({ st.1 with gets := 0 }, st.2)) HKP.out.zero ?_
          clear c4 f4 lS HKP
          have HRD1 : Hid (shK.Rdy ({ st.1 with gets := 0 } : ShS) (14 * (3 - j))) := Lib.hid HRD.out
          obtain ⟨st1, hst1⟩ : ∃ st1 : ShS × Int, ({ st.1 with gets := 0 }, st.2) = st1 := ⟨_, rfl⟩
          have h1 : ({ st.1 with gets := 0 } : ShS) = st1.1 := by rw [← hst1]
          have hg0 : st1.1.gets = 0 := by rw [← h1]
          have HG0 := Lib.hid hg0
          rw [hst1]
          rw [h1] at HRD1
          clear hst1 h1 hg0 HRD
          rintro V1 hkp
          have HKP := Lib.hid hkp
          clear hkp
          have hrow := HKP.out.row j (by omega)
          obtain ⟨r0, r1⟩ := hrow
          have lG := HKP.out.lt
          obtain ⟨ρa, hρa⟩ : ∃ x, x = (ρ j).1 := ⟨_, rfl⟩
          obtain ⟨ρb, hρb⟩ : ∃ x, x = (ρ j).2 := ⟨_, rfl⟩
          rw [← hρa] at r0
          rw [← hρb] at r1
          have HRA := Lib.hid hρa
          have HRB := Lib.hid hρb
          clear hρa hρb
          have HGET := Lib.hid (y_get HKP.out.l (ρa, ρb) key)
          simp only at HGET
          go_upto_region 32 with (go_at_call 23; refine HGET.out.mono ?_; rintro e V2 ⟨A2, n2, c2, is, er, s2, he, hy⟩; subst he)
          have HKP2 := Lib.hid (HKP.out.get hy.l hy.off)
          have HRD2 : Hid (shK.Rdy s2 (14 * (3 - j))) := Lib.hid (hy.same.rdy HRD1.out)
          obtain ⟨c4, f4, _⟩ := ShX.cells hy.l.tr.at_
          have lS := lt_of_cell c4
          have hgt : decide ((6 : Int) < s2.gets) = false := by
            obtain ⟨c, h1, h2⟩ := hy.gets
            rw [HG0.out, incN_small c 0 (by omega) (by omega)] at h2
            exact decide_eq_false (by omega)
          have hyes := hy.yes
          have hno' := hy.no
          clear hy r0 r1 lG HKP HRD1 HGET HG0
          go_cut [180] from 164 to 179 (fun v V => v = .bool false ∧ V = V2)
          case first =>
            cases is with
            | true =>
              obtain rfl := hyes rfl
              clear hyes hno'
              go_wp2_with fail
              go_meet
              exact ⟨rfl, rfl⟩
            | false =>
              obtain rfl := hno' rfl
              clear hyes hno'
              go_wp2_with fail
              go_meet
              exact ⟨rfl, rfl⟩
          case rest =>
          obtain ⟨hv, hw⟩ := hcut
          subst hv
          subst hw
          clear c4 f4 lS hgt hyes hno'
          go_upto_region 34 with (fail)
          have hrow := HKP2.out.row j (by omega)
          obtain ⟨r0, r1⟩ := hrow
          rw [← HRA.out] at r0
          rw [← HRB.out] at r1
          have lG := HKP2.out.lt
          have hci := conv1 wc 122
          obtain ⟨m7, hm7⟩ : ∃ m7, 14 * (3 - j) = m7 + 7 + 7 + 14 * (3 - (j + 1)) - 14 * (3 - (j + 1)) ∧ 14 * (3 - (j + 1)) ≤ m7 := ⟨14 * (3 - (j + 1)), by omega, by omega⟩
          have hba : Below wc.heap.size wc (wc.alloc (.cells #[.int .u8 122] 5 (1, 2))) := (Below.refl _ _).alloc (Nat.le_refl _) _
          have HSET := Lib.hid (y_set (m := m7 + 7) (HKP2.out.l.up hba) (shK_good.mono _ _ _ HRD2.out (by omega)) (ρa, ρb) key (lit1 wc 122 (by omega)) (by simp) (fun b o n c e _ => by cases e; exact HKP2.out.l.tr.outOf (Nat.le_refl _)))
          simp only at HSET
          have HBA := Lib.hid hba
          clear hba
          go_upto_region 35 with (go_at_call 22; refine HSET.out.mono ?_; rintro e w5 ⟨O5, st5, ⟨r5a, r5b⟩, er5, he, hs5, hld⟩; subst he)
          have HKP5 := Lib.hid (HKP2.out.set HBA.out hs5)
          have HRD5 := Lib.hid hs5.rdy
          have HLD := Lib.hid hld
          have HBX5 := Lib.hid (BoxA.new w5 30 (r5a, r5b))
          simp only at HBX5
          refine wp_forget (fun V => Kp W V S T G ρ Ds O5 st5 ∧ BoxA V w5.heap.size (r5a, r5b)) ⟨HKP5.out.up ((Below.refl _ _).alloc (Nat.le_refl _) _), HBX5.out⟩ ?_
          clear r0 r1 lG hci HSET hs5 hld HBX5 HKP5 HBA HKP2 HRD2
          rintro V5 ⟨hkp, hbx⟩
          have HKP := Lib.hid hkp
          have p0 := hbx.1
          have p1 := hbx.2.1
          have lp := hbx.lt
          simp only at p0 p1
          clear hkp hbx
          go_upto_if 194 with (fail)
          go_cut [19, 20, 21] from 195 to 213 (fun _ _ _ V => ∃ s6, Kp W V S T G ρ Ds O5 (s6, st5.2) ∧ shK.Rdy s6 (m7 + 7))
          case first =>
            by_cases he5 : er5 = 0
            · obtain ⟨kn, hkn, hkl, hlds⟩ := HLD.out he5
              subst hkn
              subst he5
              have HGET := Lib.hid (y_getL HKP.out.l hkl hlds)
              simp only at HGET
              clear hlds HLD
              go_upto_region 37 with (go_at_call 23; refine HGET.out.mono ?_; rintro e V6 ⟨A6, n6, c6, s6, he, hsb, hy, hof, hsm⟩; subst he)
              have HKP6 := Lib.hid (HKP.out.get hy hof)
              have HRD6 : Hid (shK.Rdy s6 (m7 + 7)) := Lib.hid (hsm.rdy HRD5.out)
              have hcv : (convert 38 9 (.slice A6 n6 c6)).run Try.prog V6 = .ok (.string ⟨#[122]⟩) V6 := hsb.str c6
              clear hy hof hsm hsb HGET HKP HRD5 p0 p1 lp
              go_wp2_with fail
              go_meet
              exact ⟨s6, HKP6.out, HRD6.out⟩
            · have hb : (er5 == 0) = false := by simp [he5]
              clear he5
              go_wp2_with fail
              go_meet
              exact ⟨st5.1, HKP.out, HRD5.out⟩
          case rest =>
          obtain ⟨s6, hkp, hrd⟩ := hcut
          have HKP6 := Lib.hid hkp
          have HRD6 := Lib.hid hrd
          clear hkp hrd HKP HRD5 HLD p0 p1 lp
          have hrow := HKP6.out.row j (by omega)
          obtain ⟨r0, r1⟩ := hrow
          rw [← HRA.out] at r0
          rw [← HRB.out] at r1
          have lG := HKP6.out.lt
          have HDEL := Lib.hid (y_del (m := m7) HKP6.out.l HRD6.out (ρa, ρb) key)
          simp only at HDEL
          go_upto_region 40 with (go_at_call 24; refine HDEL.out.mono ?_; rintro e w7 ⟨O7, st7, v7, he, hs7⟩; subst he)
          have HKP7 := Lib.hid (HKP6.out.set (Below.refl _ _) hs7)
          have HRD7 := Lib.hid hs7.rdy
          clear hs7 r0 r1 lG HDEL HKP6 HRD6
          have hrow := HKP7.out.row j (by omega)
          obtain ⟨r0, r1⟩ := hrow
          rw [← HRA.out] at r0
          rw [← HRB.out] at r1
          have lG := HKP7.out.lt
          have HCHK := Lib.hid (y_check HKP7.out.l (shK_good.mono _ _ _ HRD7.out (by omega)) (ρa, ρb))
          simp only at HCHK
          go_upto_region 41 with (go_at_call 25; refine HCHK.out.mono ?_; rintro e w8 ⟨s8, n8, er8, he, hy, hof, hsm, hn8⟩; subst he)
          have HKP8 := Lib.hid (HKP7.out.get hy hof)
          have HRD8 : Hid (shK.Rdy s8 m7) := Lib.hid (hsm.rdy HRD7.out)
          have HSM := Lib.hid hsm
          have HN8 := Lib.hid hn8
          clear hy hof hsm hn8 r0 r1 lG HCHK HKP7 HRD7
          go_upto_region 42 with (fail)
          refine wp_forget (fun V => Kp W V S T G ρ Ds O7 (s8, st7.2) ∧ V.cell? ⟨w8.heap.size, 0, none⟩ = some (.int .i64 0) ∧ V.frozen? ⟨w8.heap.size, 0, none⟩ = false ∧ V.heap.size = w8.heap.size + 1) ⟨HKP8.out.up ((Below.refl _ _).alloc (Nat.le_refl _) _), (alloc_at w8 (.int .i64 0) 3).1, (alloc_at w8 (.int .i64 0) 3).2, by simp⟩ ?_
          have HO26 : Hid (Out O7 T w8.heap.size) := Lib.hid (HKP8.out.l.tr.outOf (Nat.le_refl _))
          have HW26 : Hid (W.heap.size ≤ w8.heap.size) := Lib.hid HKP8.out.l.bel.size
          have HS26 : Hid (∀ g, O7 g ∨ g = T ∨ g = G ∨ g ∈ Ds → g < w8.heap.size) := Lib.hid (by
            rintro g (e | e | e | e)
            · exact (shX W S).lt HKP8.out.l.tr.at_ e
            · rw [e]; exact HKP8.out.l.tr.lt
            · rw [e]; exact HKP8.out.lt
            · exact (Array.getElem?_eq_some_iff.1 (HKP8.out.ds g e).2.1).1)
          obtain ⟨g26, hg26⟩ : ∃ g, w8.heap.size = g := ⟨_, rfl⟩
          rw [hg26] at HO26 HW26 HS26
          rw [hg26]
          clear hg26 HKP8
          rintro V9 ⟨hkp, c26, f26, hs9⟩
          have HKP9 := Lib.hid hkp
          have l26 := lt_of_cell c26
          clear hkp
          have hrow := HKP9.out.row j (by omega)
          obtain ⟨r0, r1⟩ := hrow
          rw [← HRA.out] at r0
          rw [← HRB.out] at r1
          have lG := HKP9.out.lt
          have HAL := Lib.hid (all_any V9 T (ρa, ρb))
          unfold addrV at HAL
          simp only at HAL
          go_wp2_with (go_at_call 26; refine HAL.out.mono ?_; rintro e W3 ⟨he, hb3, hs3, q2, q3⟩; subst he; have HS3 := Lib.hid hs3; clear hs3)
          rw [hs9] at q2 q3
          have HKP3 := Lib.hid (HKP9.out.up hb3)
          have c26' := (hb3.cell (p := ⟨g26, 0, none⟩) l26).trans c26
          have f26' := (hb3.frozen (p := ⟨g26, 0, none⟩) l26).trans f26
          have hlV : g26 < W3.heap.size := Nat.lt_of_lt_of_le l26 hb3.size
          obtain ⟨y, hy⟩ : ∃ y, walkF shK (pairsC chkF) 7 (s8, 1048576, 0) (ρa, ρb) 0 0 = y := ⟨_, rfl⟩
          have hyg : SameG s8 y.1.1 := by rw [← hy]; exact walkG (pairsC chkF) 7 (s8, 1048576, 0) (ρa, ρb) 0 0
          have hye : er8 = 0 → y.1.2.2 = n8 := fun e => by
            have h1 := walk_eqG (pairsC chkF) 7 (st7.1, 1048576, 0) (s8, 1048576, 0) (ρa, ρb) 0 0 HSM.out rfl
            rw [← hy, h1.2.1, ← HN8.out e]
          have HY := Lib.hid hy
          have HYG := Lib.hid hyg
          have HYE := Lib.hid hye
          clear hy hyg hye HSM HN8 HKP9 c26 f26 r0 r1 lG HAL
          refine (wpIn_wide (n := 9)).1 ?_
          refine range_pairs (M := shX W S) (T := T) (O := O7) (Ov := (· = g26)) (s := s8) (p := st7.2) (r := (ρa, ρb)) shK_good rfl rfl chkF (fun _ => true) (fun _ _ _ _ => rfl)
            (fun w O1 x => (∀ k, O1 k ↔ k = g26) ∧ w.cell? ⟨g26, 0, none⟩ = some (.int .i64 x) ∧ w.frozen? ⟨g26, 0, none⟩ = false) (fun _ w O1 _ => ∀ k, O1 k → k < w.heap.size)
            (fun {S O w w' x} h ho hs => ⟨h.1, (ho.cell (p := ⟨g26, 0, none⟩) (lt_of_cell h.2.1) (fun e => hs _ e ((h.1 g26).2 rfl))).trans h.2.1, (ho.frozen (p := ⟨g26, 0, none⟩) (lt_of_cell h.2.1) (fun e => hs _ e ((h.1 g26).2 rfl))).trans h.2.2⟩) (fun {O w x k} h hk => by rw [(h.1 k).1 hk]; exact lt_of_cell h.2.1)
            (fun {c S O w w' x} h ho hs k hk => Nat.lt_of_lt_of_le (h k hk) ho.size) (fun {c O w x k} h hk => h k hk)
            ?a1 0 rfl HKP3.out.l.tr ⟨fun k => Iff.rfl, c26', f26'⟩ (shK_good.mono _ _ _ HRD8.out (by omega)) (fun k e e2 => HO26.out.1 (by rw [← e2]; exact e)) (fun e => HO26.out.2 e.symm) q2 q3 ?assign ?body ?fin
          case assign =>
            intro l key' v W' K hK
            gi_wp2
            exact hK
          case body =>
            intro l x key' v Lb W' O1 hiv hx hkey hsl hLb hvO
            obtain ⟨hO1, cx, fx⟩ := hiv
            have lx := lt_of_cell cx
            have HO1 := Lib.hid hO1
            clear hO1 hsl hvO
            gi_wp2
            exact ⟨rfl, O1, ⟨HO1.out, World.cell?_setCell_same _ _ _ cx, (World.frozen?_setCell _ _ _ _).trans fx⟩, (Off.refl O1 W').setCell (p := ⟨g26, 0, none⟩) ((HO1.out g26).2 rfl) _, fun k hk => .inl hk⟩
          case fin =>
            intro D W4 O1 y' hy' hD hdf htr hof hO1
            rw [HY.out] at hy'
            subst hy'
            refine ⟨fun _ hiv => ?_, fun hal => by cases hal⟩
            obtain ⟨hO1b, cy, fy⟩ := hiv
            have HKP4 := Lib.hid ((HKP3.out.off hof (HKP3.out.l.next (st' := (y'.1.1, st7.2)) htr hof HYG.out.grw) (fun e => e.elim HKP3.out.oG.1 (fun e => by have := HS26.out G (.inr (.inr (.inl rfl))); omega)) (fun D hD e => e.elim (HKP3.out.ds D hD).2.2.1 (fun e => by have := HS26.out D (.inr (.inr (.inr hD))); omega)) (fun _ _ => id)).add (by have := HW26.out; omega) hdf ⟨fun e => by have := HS26.out D (.inl e); omega, fun e => by have := HS26.out D (.inr (.inl e)); omega⟩ (fun e => by have := HS26.out D (.inr (.inr (.inr e))); omega))
            have HRD9 : Hid (shK.Rdy y'.1.1 m7) := Lib.hid (HYG.out.rdy HRD8.out)
            have ly := lt_of_cell cy
            clear hO1b hof htr hdf hO1 hD q2 q3 HKP3 HRD8 c26' f26' HYG
            go_upto_region 44 with (fail)
            go_cut [246] from 240 to 245 (fun v V => v = .bool false ∧ V = W4)
            case first =>
              by_cases he8 : er8 = 0
              · have hyy := HYE.out he8
                rw [hyy] at cy
                subst he8
                clear hyy HYE
                go_wp2_with fail
                go_meet
                exact ⟨rfl, rfl⟩
              · have hb : (er8 == 0) = false := by simp [he8]
                clear he8
                go_wp2_with fail
                go_meet
                exact ⟨rfl, rfl⟩
            case rest =>
            obtain ⟨hv, hw⟩ := hcut
            subst hv
            subst hw
            clear cy fy ly HYE
            have hrow := HKP4.out.row j (by omega)
            obtain ⟨r0, r1⟩ := hrow
            rw [← HRA.out] at r0
            rw [← HRB.out] at r1
            have lG := HKP4.out.lt
            have HND := Lib.hid (y_nodes HKP4.out.l (shK_good.mono _ _ _ HRD9.out (by omega)) (ρa, ρb))
            simp only at HND
            go_wp2_with (go_at_call 19; refine HND.out.mono ?_; rintro e w10 ⟨s10, v10, he, hy10, hof, hsm⟩; subst he)
            refine ⟨⟨_, D :: Ds, j + 1, O7, (s10, st7.2), rfl, rfl, rfl, rfl, rfl, rfl, by show Value.int IntKind.i64 ((j : Int) + 1) = _; go_num, by omega, HKP4.out.get hy10 hof, shK_good.mono _ _ _ (hsm.rdy HRD9.out) (by omega)⟩, ?_⟩
            show 3 - (intOf (Value.int IntKind.i64 ((j : Int) + 1))).toNat < 3 - (intOf (Value.int IntKind.i64 (j : Int))).toNat
            simp [intOf]
            omega
        · obtain rfl : j = 3 := by omega
          go_wp2
          exact any_end HKP.out.l.bel (fun D hD => ⟨(HKP.out.ds D hD).1, (HKP.out.ds D hD).2.1⟩) HKP.out.nd rfl
end Go.Proofs.Ytgkdggidgaifhaa
