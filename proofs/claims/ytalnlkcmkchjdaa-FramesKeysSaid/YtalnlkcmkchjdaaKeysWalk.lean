/- The walk of FramesKeys. -/
import Derived.Test.YtalnlkcmkchjdaaKO
import Derived.Deep.CutRange
import Derived.Deep.DeepCutAuto
import Derived.Deep.CutBlock
namespace Go.Proofs.Ytalnlkcmkchjdaa
open Go.RowKit Go.Maps
set_option linter.unusedVariables false
set_option linter.unusedSimpArgs false

/-- The law's state between two acts. -/
def KSt (W0 : World) (P B M Wb n : Nat) (wr : World) : Prop := ∃ F h g, KInv n F g ∧ KAt W0 P B M Wb n F h g g (cntF qUsed F n) wr

/-- A frame in a block of its own. -/
def XAt (w : World) (b : Nat) (x : Fr) : Prop := w.heap[b]? = some (.cells #[.int .i64 x.key, .bool x.used, .bool x.ref, .bool x.dirty, .int .i64 x.pins] 28 (0, 0))
theorem XAt.cells {w : World} {b : Nat} {a : Fr} (h : XAt w b a) : w.cell? ⟨b, 0, none⟩ = some (.int .i64 a.key) ∧ w.cell? ⟨b, 1, none⟩ = some (.bool a.used) ∧ w.cell? ⟨b, 2, none⟩ = some (.bool a.ref) ∧ w.cell? ⟨b, 3, none⟩ = some (.bool a.dirty) ∧ w.cell? ⟨b, 4, none⟩ = some (.int .i64 a.pins) := by
  simp only [cell_of_row _ _ _ _ _ _ h]
  exact ⟨rfl, rfl, rfl, rfl, rfl⟩
theorem XAt.off {w w' : World} {b : Nat} {a : Fr} {S : Nat → Prop} (h : XAt w b a) (ho : Off S w w') (hs : ¬ S b) : XAt w' b a := (ho.block b (Array.getElem?_eq_some_iff.1 h).1 hs).trans h
theorem XAt.made (w : World) (x : Fr) : XAt (w.alloc (.cells #[.int .i64 x.key, .bool x.used, .bool x.ref, .bool x.dirty, .int .i64 x.pins] 28)) w.heap.size x := by
  show (w.heap.push _)[w.heap.size]? = some _
  exact Array.getElem?_push_size
theorem KAt.fresh {W0 wr : World} {P B M Wb n : Nat} {F : Nat → Fr} {h : Nat} {g g1 : Int → Option Nat} {c1 : Nat} (k : KAt W0 P B M Wb n F h g g1 c1 wr) : ¬ PB P B M wr.heap.size ∧ wr.heap.size ≠ Wb := by
  obtain ⟨c1, p1⟩ := k.pool
  have k1 := lt_of_cell p1.l0
  have k2 := lt_of_cell (p1.fr 0 p1.pos).c0
  have k3 := p1.mp.lt
  have k4 := k.wh.lt
  refine ⟨?_, by omega⟩
  unfold PB
  omega

theorem wF_val {g : Int → Option Nat} {v u : Value} (h : wF g v = some u) : ∃ (k : Int) (i : Nat), g k = some i ∧ u = .int .i64 i := by
  unfold wF at h
  cases hk : intOfV v with
  | none => rw [hk] at h; cases h
  | some k =>
    rw [hk] at h
    cases hg : g k with
    | none => simp [hg] at h
    | some i => simp [hg] at h; exact ⟨k, i, hg, h.symm⟩
/-- The state ahead of the range. -/
def KTail (W0 : World) (P B M Wb n r : Nat) (key : Int) (g1 : Int → Option Nat) (c1 : Nat) (wy : World) : Prop :=
  ∃ F1 h1, KInv n F1 (upd g1 key (some r)) ∧ cntF qUsed F1 n = c1 + 1 ∧ g1 key = none ∧ (∀ k, g1 k ≠ some r) ∧ KAt W0 P B M Wb n F1 h1 (upd g1 key (some r)) g1 c1 wy

theorem k_start {w w2 : World} {P B M n : Nat} (p2 : PoolAt w2 P B M n (fun _ => Fr.zero) 0 (fun _ => none) 0) (hb : Below w.heap.size w w2) (hP : w.heap.size ≤ P) (hB : w.heap.size ≤ B) (hM : w.heap.size ≤ M) :
    KSt w P B M w2.heap.size n (w2.alloc (.map #[] 0)) := by
  have p3 := p2.up ((Below.refl _ _).alloc (Nat.le_refl _) (.map #[] 0))
  have m3 : MapIs Try.prog 3 (w2.alloc (.map #[] 0)) w2.heap.size (wF fun _ => none) 0 := by
    have := MapIs.made (P := Try.prog) (k := 3) w2
    have e : (fun _ => none) = wF fun _ => none := by funext v; unfold wF; cases intOfV v <;> rfl
    rw [e] at this
    exact this
  have hc : ∀ n, cntF qUsed (fun _ => Fr.zero) n = 0 := by
    intro n
    induction n with
    | zero => rfl
    | succ k ih => unfold cntF; rw [ih]; rfl
  refine ⟨_, _, _, ⟨⟨fun j _ h => (by cases h), fun k j h => (by cases h)⟩, fun j _ => by simp [Fr.zero]⟩, ⟨⟨_, p3⟩, (hc n).symm ▸ m3, ?_, hb.alloc hb.size _, hP, hB, hM, hb.size⟩⟩
  have h1 := lt_of_cell p2.l0
  have h2 := lt_of_cell (p2.fr 0 p2.pos).c0
  have h3 := p2.mp.lt
  unfold PB
  omega

set_option maxRecDepth 100000 in
set_option maxHeartbeats 8000000 in
theorem keys_walk (w : World) (n : Int) (m c : Nat) (A : Option Addr) (L : Nat → Ac) (hm : m ≤ maxLen) (hA : SA w A m L) :
    Calls Try.prog 5 #[.int .i64 n, .slice A m c] w fun e w' => e = .returned (.bool true) ∧ Below w.heap.size w w' := by
  unfold maxLen at hm
  have HA := Lib.hid hA
  clear hA
  by_cases good : m ≤ 300 ∧ 1 ≤ n ∧ n ≤ 50
  case neg =>
    have hbad : 300 < m ∨ (m ≤ 300 ∧ n < 1) ∨ (m ≤ 300 ∧ 1 ≤ n ∧ 50 < n) := by omega
    clear good
    go_enter Try.func5, Try.ntmps5
    go_wp2_with fail
    refine (known_any _).mono ?_
    rintro e w1 ⟨rfl, hb1⟩
    rcases hbad with h | ⟨h, h'⟩ | ⟨h, h', h''⟩
    all_goals
      go_wp2_with fail
      all_goals
        go_ret
        exact ⟨rfl, hb1⟩
  case pos =>
    obtain ⟨h1, h2, h3⟩ := good
    obtain ⟨n, rfl⟩ := Int.eq_ofNat_of_zero_le (show 0 ≤ n by omega)
    have h5 : 1 ≤ n := by omega
    have h6 : n ≤ 50 := by omega
    go_enter Try.func5, Try.ntmps5
    go_wp2_with fail
    refine (known_any _).mono ?_
    rintro e w1 ⟨rfl, hb1⟩
    go_wp2_with fail
    refine (New_any w1 n (by omega) (by omega)).mono ?_
    rintro e w2 ⟨P, B, M, rfl, p2, hP, hB, hM, hb2⟩
    have hs1 := hb1.size
    have hb3 := below_upto hb1 hb2 (Nat.le_refl _)
    have HK := Lib.hid (k_start p2 hb3 (by omega) (by omega) (by omega))
    clear hb1 hb2 p2 hb3
    have hmm := @run_makeMap Try.prog
    go_wp2_with fail
    go_loopw [8] (fun i wr => ∃ k : Nat, k ≤ m ∧ i = .int .i64 k ∧ KSt w P B M w2.heap.size n wr) (fun i _ => m - (intOf i).toNat)
    case atStart => exact ⟨0, Nat.zero_le _, rfl, HK.out⟩
    case round =>
      obtain ⟨k, hk, rfl, hst⟩ := hrel
      clear HK
      have HS := Lib.hid hst
      clear hst
      by_cases hlt : k < m
      · obtain ⟨F, h, g, hi, ka⟩ := HS.out
        obtain ⟨b1, o1, e1, q1, kw, d0, d1, d2, d3⟩ := HA.out.at_ ka.below hlt
        cases e1
        clear HS
        generalize hL : L k = a at *
        have HI := Lib.hid hi
        have HKA := Lib.hid ka
        have HKW := Lib.hid kw
        clear hi ka hL kw
        go_upto_block 2 with (fail)
        have HKA2 := Lib.hid (HKA.out.up ((Below.refl _ _).alloc (Nat.le_refl _) (.cells #[.int .i64 a.op, .int .i64 a.key, .int .i64 a.frame, .bool a.write] 43)))
        have HAC : Hid (ActAt (wr.alloc (.cells #[.int .i64 a.op, .int .i64 a.key, .int .i64 a.frame, .bool a.write] 43)) wr.heap.size a) := by
          show (wr.heap.push _)[wr.heap.size]? = some _
          exact Array.getElem?_push_size
        have HNE := Lib.hid HKA.out.fresh
        clear HKA d0 d1 d2 d3 q1
        refine wp_forget (fun wx => KAt w P B M w2.heap.size n F h g g (cntF qUsed F n) wx ∧ ActAt wx wr.heap.size a) ⟨HKA2.out, HAC.out⟩ ?_
        clear HKA2 HAC
        rintro wx ⟨ka, ac⟩
        generalize wr.heap.size = ab at *
        have HKA := Lib.hid ka
        have HAC := Lib.hid ac
        clear ka ac
        go_cut [10, 11, 12, 13, 14, 15, 16, 17, 19, 20, 21] from 50 to 182 (fun _ _ _ _ _ _ _ _ _ _ _ wc => KSt w P B M w2.heap.size n wc)
        case first =>
          obtain ⟨x0, x1, x2, x3⟩ := HAC.out.cells
          obtain ⟨cp, pp⟩ := HKA.out.pool
          have HPP := Lib.hid pp
          clear pp
          by_cases e1 : a.op = 1
          · have f1 : (a.op == 1) = true := by simp [e1]
            have hlook := w_look HKA.out.wh HKW.out
            clear e1
            go_upto_region 16 with (fail)
            clear hlook
            have hkt := kt (key := a.key) HI.out HPP.out.hand
            have HT := Lib.hid (Take_any (key := a.key) HPP.out HKW.out)
            rcases hkt with ⟨hg, ht⟩ | ⟨r, hg, hj, hno, ht, hI', hc'⟩ | ⟨hg, ht⟩ | ⟨r, out, F', h', hg, hr, ho, hp, hu, hf, ⟨j, hjn, hkey⟩, hno, ht, hI', hc'⟩
            · have HTI := Lib.hid ht
              have HG := Lib.hid hg
              clear ht hg
              go_wp2_with fail
              refine HT.out.mono ?_
              rintro e w5 ⟨rfl, ⟨c5, p5⟩, o5⟩
              have HX : Hid (KSt w P B M w2.heap.size n (w5.alloc (.cells #[.int .i64 0, .bool false, .bool false, .bool false, .int .i64 0] 28))) :=
                ⟨F, h, g, HI.out, (HKA.out.op (p5.congr HTI.out.F HTI.out.h HTI.out.g) o5).up ((Below.refl _ _).alloc (Nat.le_refl _) _)⟩
              unfold TakeR.val Fr.val
              rw [HTI.out.frame, HTI.out.out, HTI.out.given, HTI.out.e, HG.out]
              unfold Fr.zero
              clear p5 o5 HT HTI HG HKA HPP HAC x0 x1 x2 x3
              go_wp2
              exact ⟨⟨k + 1, by omega, by go_num, HX.out⟩, by simp [intOf]; omega⟩
            case' free =>
              have HTI := Lib.hid ht
              have HG : Hid ((g a.key).isSome = false) := by rw [hg]; rfl
              have HK1 : Hid (g a.key = none) := hg
              have HNO := Lib.hid hno
              have HI1 := Lib.hid hI'
              have HC1 := Lib.hid hc'
              clear ht hg hno hI' hc'
              go_wp2_with fail
              refine HT.out.mono ?_
              rintro e w5 ⟨rfl, ⟨c5, p5⟩, o5⟩
              have HKA5 := Lib.hid ((HKA.out.op (p5.congr HTI.out.F HTI.out.h HTI.out.g) o5).up ((Below.refl _ _).alloc (Nat.le_refl _) (.cells #[.int .i64 0, .bool false, .bool false, .bool false, .int .i64 0] 28)))
              have HAC5 := Lib.hid ((HAC.out.off o5 HNE.out.1).off (Off.of_below (S := fun _ => False) ((Below.refl _ _).alloc (Nat.le_refl _) (.cells #[.int .i64 0, .bool false, .bool false, .bool false, .int .i64 0] 28))) id)
              unfold TakeR.val Fr.val
              rw [HTI.out.frame, HTI.out.out, HTI.out.given, HTI.out.e, HG.out]
              unfold Fr.zero
              clear p5 o5 HT HTI HG HKA HPP HAC x0 x1 x2 x3
              go_upto_region 25 with (fail)
              refine wp_forget (fun wy => KTail w P B M w2.heap.size n r a.key g (cntF qUsed F n) wy ∧ ActAt wy ab a) ⟨⟨_, _, HI1.out, HC1.out, HK1.out, HNO.out, HKA5.out⟩, HAC5.out⟩ ?_
              clear HKA5 HAC5 HI1 HC1 HK1 HNO HI
              generalize cntF qUsed F n = c1 at *
            case full =>
              have HTI := Lib.hid ht
              have HG : Hid ((g a.key).isSome = false) := by rw [hg]; rfl
              clear ht hg
              go_wp2_with fail
              refine HT.out.mono ?_
              rintro e w5 ⟨rfl, ⟨c5, p5⟩, o5⟩
              have HX : Hid (KSt w P B M w2.heap.size n (w5.alloc (.cells #[.int .i64 0, .bool false, .bool false, .bool false, .int .i64 0] 28))) :=
                ⟨F, h, g, HI.out, (HKA.out.op (p5.congr HTI.out.F HTI.out.h HTI.out.g) o5).up ((Below.refl _ _).alloc (Nat.le_refl _) _)⟩
              unfold TakeR.val Fr.val
              rw [HTI.out.frame, HTI.out.out, HTI.out.given, HTI.out.e, HG.out]
              unfold Fr.zero
              clear p5 o5 HT HTI HG HKA HPP HAC x0 x1 x2 x3
              go_wp2
              exact ⟨⟨k + 1, by omega, by go_num, HX.out⟩, by simp [intOf]; omega⟩
            case' give =>
              have HTI := Lib.hid ht
              have HG : Hid ((g a.key).isSome = false) := by rw [hg]; rfl
              have HGO := Lib.hid ho
              have HKJ : Hid ((Lit.int .i64 out.key).wf = true) := by rw [hkey]; exact HPP.out.kw j hjn
              have HNO := Lib.hid hno
              have HI1 := Lib.hid hI'
              have HC1 := Lib.hid hc'
              have HK1 : Hid (upd g out.key none a.key = none) := by
                show _ = _
                unfold upd
                split
                · rfl
                · exact hg
              have HCP : Hid (1 ≤ cntF qUsed F n) := by
                obtain ⟨z1, z2, z3⟩ := HI.out.good.b _ _ ho
                have e1 := cntF_put (q := qUsed) (F := F) (f := Fr.zero) z1
                have e3 : qUsed (F r) = true := z2
                have e4 : qUsed Fr.zero = false := rfl
                rw [e3, e4] at e1
                show 1 ≤ _
                simp at e1
                omega
              have HP0 := Lib.hid hp
              have HU0 := Lib.hid hu
              have HF0 := Lib.hid hf
              clear ht hg ho hno hI' hc' hkey hjn hp hu hf
              go_wp2_with fail
              refine HT.out.mono ?_
              rintro e w5 ⟨rfl, ⟨c5, p5⟩, o5⟩
              have HKA4 := Lib.hid (HKA.out.op (p5.congr HTI.out.F HTI.out.h HTI.out.g) o5)
              have HNE5 := Lib.hid HKA4.out.fresh
              have HKA5 := Lib.hid (HKA4.out.up ((Below.refl _ _).alloc (Nat.le_refl _) (.cells #[.int .i64 out.key, .bool out.used, .bool out.ref, .bool out.dirty, .int .i64 out.pins] 28)))
              have HAC5 := Lib.hid ((HAC.out.off o5 HNE.out.1).off (Off.of_below (S := fun _ => False) ((Below.refl _ _).alloc (Nat.le_refl _) (.cells #[.int .i64 out.key, .bool out.used, .bool out.ref, .bool out.dirty, .int .i64 out.pins] 28))) id)
              unfold TakeR.val Fr.val
              rw [HTI.out.frame, HTI.out.out, HTI.out.given, HTI.out.e, HG.out]
              clear p5 o5 HT HTI HG HKA HKA4 HPP HAC x0 x1 x2 x3
              go_upto_region 21 with (fail)
              refine wp_forget (fun wy => KAt w P B M w2.heap.size n F' h' (upd (upd g out.key none) a.key (some r)) g (cntF qUsed F n) wy ∧ ActAt wy ab a ∧ XAt wy w5.heap.size out) ⟨HKA5.out, HAC5.out, XAt.made _ _⟩ ?_
              clear HKA5 HAC5
              rintro wy ⟨ka, ac, xa⟩
              obtain ⟨y0, y1, y2, y3, y4⟩ := xa.cells
              rw [HP0.out] at y4
              rw [HU0.out] at y1
              rw [HF0.out] at y2
              have hlook := w_look ka.wh HKJ.out
              rw [show findI g out.key = (r : Int) by unfold findI; rw [HGO.out], show (g out.key).isSome = true by rw [HGO.out]; rfl] at hlook
              have HKA := Lib.hid ka
              have HAC := Lib.hid ac
              clear ka ac xa
              go_upto_region 24 with (fail)
              clear hlook
              obtain ⟨w9, hrun, hm9, ho9⟩ := HKA.out.wh.del (t := 41) intKeyed Try.underlying41 (keyOf_int_mk Try.underlying3 HKJ.out) 0
              rw [wF_del, wF_some, HGO.out] at hm9
              have HKA9 := Lib.hid (HKA.out.map hm9 ho9)
              have HAC9 := Lib.hid (HAC.out.off ho9 HNE.out.2)
              clear hm9 ho9 HKA HAC
              go_upto_region 25 with (fail)
              refine wp_forget (fun wy => KTail w P B M w2.heap.size n r a.key (upd g out.key none) (cntF qUsed F n - 1) wy ∧ ActAt wy ab a) ⟨⟨_, _, HI1.out, by rw [HC1.out]; have := HCP.out; omega, HK1.out, HNO.out, HKA9.out⟩, HAC9.out⟩ ?_
              clear HKA9 HAC9 HI1 HC1 HK1 HNO HI hrun y0 y1 y2 y3 y4
              generalize cntF qUsed F n - 1 = c1 at *
              generalize upd g out.key none = g at *
            all_goals
              rintro wy ⟨⟨F1, hh1, hI1, hc1, hk1, hno1, ka⟩, ac⟩
              have hbs : w2.heap.size < wy.heap.size := ka.wh.lt
              obtain ⟨es, clock, hbm, hst, hces, hkk, hv1, hv2⟩ := id ka.wh
              have hrg := run_range_map (P := Try.prog) wy 41 3 3 w2.heap.size es clock Try.underlying41 hbm
              have HBM := Lib.hid hbm
              have HST := Lib.hid hst
              have HV1 := Lib.hid hv1
              have HKA := Lib.hid ka
              have HAC := Lib.hid ac
              have HI1 := Lib.hid hI1
              have HC1 := Lib.hid hc1
              have HK1 := Lib.hid hk1
              have HNO := Lib.hid hno1
              clear hbm hst hv1 ka ac hI1 hc1 hk1 hno1 hces hkk hv2
              go_wp2_with fail
              clear hrg
              go_loopw [] (fun wz => ∃ seen, wz.heap[wy.heap.size]? = some (.mapIter (some w2.heap.size) clock seen clock) ∧ Off (· = wy.heap.size) wy wz) (fun wz => (leftOf es (wz.iterSeen wy.heap.size)).size)
              case atStart => exact ⟨#[], Array.getElem?_push_size, Off.of_below ((Below.refl _ _).alloc (Nat.le_refl _) _)⟩
              case round =>
                obtain ⟨seen, hsn, ho⟩ := hrel
                have hb' := (ho.block _ hbs (by omega)).trans HBM.out
                rcases next_law (P := Try.prog) hsn hb' HST.out (by omega) with ⟨h0, hnx⟩ | ⟨e, wn, he, hms, hnx, hen, hr2, hon⟩
                · have HO := Lib.hid ho
                  clear hsn ho hb' h0
                  go_upto_region 30 with (fail)
                  clear hnx
                  have hb9 := HO.out.below (B := wy.heap.size) (fun i e => e ▸ Nat.le_refl _) (Nat.le_refl _)
                  have HKA8 := Lib.hid (HKA.out.up hb9)
                  obtain ⟨x0, x1, x2, x3⟩ := (HAC.out.off (Off.of_below (S := fun _ => False) hb9) id).cells
                  obtain ⟨w9, hrun, hm9, ho9⟩ := HKA8.out.wh.put (t := 41) (val := .int .i64 (r : Nat)) intKeyed Try.underlying41 (keyOf_int_mk Try.underlying3 HKW.out)
                  rw [wF_put, wF_some, HK1.out] at hm9
                  have HX : Hid (KSt w P B M w2.heap.size n w9) := ⟨_, _, _, HI1.out, HC1.out ▸ HKA8.out.map hm9 ho9⟩
                  clear hm9 ho9 HKA8 hb9 HO
                  go_wp2_with fail
                  go_meet
                  exact HX.out
                · obtain ⟨kk, i, hgi, hvi⟩ := wF_val (HV1.out e he)
                  have hne : ((i : Int) == (r : Int)) = false := by
                    have hir : i ≠ r := fun e => HNO.out kk (e ▸ hgi)
                    simp
                    omega
                  rw [hvi] at hnx hen
                  have HX : Hid (∃ seen, wn.heap[wy.heap.size]? = some (.mapIter (some w2.heap.size) clock seen clock) ∧ Off (· = wy.heap.size) wy wn) := ⟨_, hr2, ho.trans hon⟩
                  have HMS : Hid ((leftOf es (wn.iterSeen wy.heap.size)).size < (leftOf es (wr.iterSeen wy.heap.size)).size) := by rw [iterSeen_of hr2, iterSeen_of hsn]; exact hms
                  clear hgi hvi hr2 ho hon hms hsn hb' he
                  go_wp2
                  go_roundw
                  case rel => exact HX.out
                  case measure => exact HMS.out
          have f1 : (a.op == 1) = false := by simp [e1]
          by_cases e6 : a.op = 6
          · have f6 : (a.op == 6) = true := by simp [e6]
            obtain ⟨x, e0, hat, hx⟩ := at_k HPP.out a.frame
            have HAT := Lib.hid hat
            have HXJ := Lib.hid hx
            clear hat hx e1 e6
            go_wp2_with fail
            refine HAT.out.mono ?_
            rintro e w5 ⟨rfl, hb5⟩
            unfold Fr.val
            have HKA5 := Lib.hid ((HKA.out.up hb5).up ((Below.refl _ _).alloc (Nat.le_refl _) (.cells #[.int .i64 x.key, .bool x.used, .bool x.ref, .bool x.dirty, .int .i64 x.pins] 28)))
            have HAC5 := Lib.hid ((HAC.out.off (Off.of_below (S := fun _ => False) hb5) id).off (Off.of_below (S := fun _ => False) ((Below.refl _ _).alloc (Nat.le_refl _) (.cells #[.int .i64 x.key, .bool x.used, .bool x.ref, .bool x.dirty, .int .i64 x.pins] 28))) id)
            have HNE5 := Lib.hid (HKA.out.up hb5).fresh
            clear hb5 HAT HKA HAC HPP x0 x1 x2 x3
            go_upto_region 33 with (fail)
            refine wp_forget (fun wy => KAt w P B M w2.heap.size n F h g g (cntF qUsed F n) wy ∧ ActAt wy ab a ∧ XAt wy w5.heap.size x) ⟨HKA5.out, HAC5.out, XAt.made _ _⟩ ?_
            clear HKA5 HAC5
            rintro wy ⟨ka, ac, xa⟩
            obtain ⟨cp, pp⟩ := ka.pool
            obtain ⟨x0, x1, x2, x3⟩ := ac.cells
            have HKA := Lib.hid ka
            have HXA := Lib.hid xa
            rcases drop_k HI.out pp a.frame with ⟨e0, he0, hcall⟩ | ⟨j, hj, hjn, hgs, hI', hc', hcall⟩
            · have HCALL := Lib.hid hcall
              clear hcall ka ac xa pp
              go_wp2_with fail
              refine HCALL.out.mono ?_
              rintro e w7 ⟨rfl, ⟨c7, p7⟩, o7⟩
              have HX : Hid (KSt w P B M w2.heap.size n w7) := ⟨F, h, g, HI.out, HKA.out.op p7 o7⟩
              clear p7 o7 HCALL HKA
              go_wp2_with fail
              go_meet
              exact HX.out
            · have HCALL := Lib.hid hcall
              have HKJ := Lib.hid (pp.kw j hjn)
              obtain rfl := HXJ.out j hj hjn
              have HI' := Lib.hid hI'
              have HC' := Lib.hid hc'
              have HGS := Lib.hid hgs
              clear hcall ka ac xa pp hI' hc' hgs hj HXJ
              go_wp2_with fail
              refine HCALL.out.mono ?_
              rintro e w7 ⟨rfl, ⟨c7, p7⟩, o7⟩
              have HKA7 := Lib.hid (HKA.out.op p7 o7)
              obtain ⟨y0, y1, y2, y3, y4⟩ := (HXA.out.off o7 HNE5.out.1).cells
              obtain ⟨w9, hrun, hm9, ho9⟩ := HKA7.out.wh.del (t := 41) intKeyed Try.underlying41 (keyOf_int_mk Try.underlying3 HKJ.out) 0
              rw [wF_del, wF_some, HGS.out, if_pos rfl, ← HC'.out] at hm9
              have HX : Hid (KSt w P B M w2.heap.size n w9) := ⟨_, _, _, HI'.out, HKA7.out.map hm9 ho9⟩
              clear p7 o7 HCALL HKA HKA7 hm9 ho9 HXA x0 x1 x2 x3
              go_wp2_with fail
              go_meet
              exact HX.out
          have f6 : (a.op == 6) = false := by simp [e6]
          by_cases e2 : a.op = 2
          · have f2 : (a.op == 2) = true := by simp [e2]
            obtain ⟨e0, F', hI', hc', hcall⟩ := touch_k HI.out HPP.out a.frame a.write
            have HI' := Lib.hid hI'
            have HC' := Lib.hid hc'
            have HCALL := Lib.hid hcall
            clear hI' hc' hcall e1 e6 e2
            go_wp2_with fail
            refine HCALL.out.mono ?_
            rintro e w5 ⟨rfl, ⟨c5, p5⟩, o5⟩
            have HX : Hid (KSt w P B M w2.heap.size n w5) := ⟨F', h, g, HI'.out, HC'.out ▸ HKA.out.op p5 o5⟩
            clear p5 o5 HCALL HI' HC'
            go_wp2_with fail
            go_meet
            exact HX.out
          have f2 : (a.op == 2) = false := by simp [e2]
          by_cases e4 : a.op = 4
          · have f4 : (a.op == 4) = true := by simp [e4]
            obtain ⟨e0, F', hI', hc', hcall⟩ := pin_k HI.out HPP.out a.frame
            have HI' := Lib.hid hI'
            have HC' := Lib.hid hc'
            have HCALL := Lib.hid hcall
            clear hI' hc' hcall e1 e6 e2 e4
            go_wp2_with fail
            refine HCALL.out.mono ?_
            rintro e w5 ⟨rfl, ⟨c5, p5⟩, o5⟩
            have HX : Hid (KSt w P B M w2.heap.size n w5) := ⟨F', h, g, HI'.out, HC'.out ▸ HKA.out.op p5 o5⟩
            clear p5 o5 HCALL HI' HC'
            go_wp2_with fail
            go_meet
            exact HX.out
          have f4 : (a.op == 4) = false := by simp [e4]
          by_cases e5 : a.op = 5
          · have f5 : (a.op == 5) = true := by simp [e5]
            obtain ⟨e0, F', hI', hc', hcall⟩ := unpin_k HI.out HPP.out a.frame
            have HI' := Lib.hid hI'
            have HC' := Lib.hid hc'
            have HCALL := Lib.hid hcall
            clear hI' hc' hcall e1 e6 e2 e4 e5
            go_wp2_with fail
            refine HCALL.out.mono ?_
            rintro e w5 ⟨rfl, ⟨c5, p5⟩, o5⟩
            have HX : Hid (KSt w P B M w2.heap.size n w5) := ⟨F', h, g, HI'.out, HC'.out ▸ HKA.out.op p5 o5⟩
            clear p5 o5 HCALL HI' HC'
            go_wp2_with fail
            go_meet
            exact HX.out
          have f5 : (a.op == 5) = false := by simp [e5]
          have HX : Hid (KSt w P B M w2.heap.size n wx) := ⟨F, h, g, HI.out, HKA.out⟩
          clear e1 e6 e2 e4 e5
          go_wp2_with fail
          go_meet
          exact HX.out
        case rest =>
          obtain ⟨F2, hd2, g2, hi2, ka2⟩ := hcut
          obtain ⟨cp, pp⟩ := ka2.pool
          have HKA2 := Lib.hid ka2
          have HPP := Lib.hid pp
          have HI2 := Lib.hid hi2
          have hle := cntF_le qUsed F2 n
          clear ka2 pp hi2 HKA HAC
          go_wp2_with fail
          refine (Count_any HPP.out).mono ?_
          rintro e w8 ⟨rfl, hb8⟩
          have HKA3 := Lib.hid (HKA2.out.up hb8)
          clear hb8 HKA2 HPP
          have hlen : ∀ ty, (Builtin.len_ #[41] ty #[.map (some w2.heap.size)]).run Try.prog w8 = .ok (.int .i64 (cntF qUsed F2 n : Nat)) w8 := fun ty => HKA3.out.wh.len Try.underlying41 ty
          have HX : Hid (KSt w P B M w2.heap.size n w8) := ⟨F2, hd2, g2, HI2.out, HKA3.out⟩
          clear HKA3 HI2
          generalize cntF qUsed F2 n = u at *
          go_wp2
          exact ⟨⟨k + 1, by omega, by go_num, HX.out⟩, by simp [intOf]; omega⟩
      · have hge : m ≤ k := by omega
        have HBe : Hid (Below w.heap.size w wr) := by
          obtain ⟨F, h, g, _, ka⟩ := HS.out
          exact ka.below
        clear hlt
        go_wp2
        go_ret
        exact ⟨rfl, HBe.out⟩
end Go.Proofs.Ytalnlkcmkchjdaa
