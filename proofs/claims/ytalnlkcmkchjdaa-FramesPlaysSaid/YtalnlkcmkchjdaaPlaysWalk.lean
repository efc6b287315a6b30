/- The walks of step, looks and FramesPlays. -/
import Derived.Test.YtalnlkcmkchjdaaRE
import Derived.Deep.CutRange
import Derived.Deep.DeepCutAuto
import Derived.Deep.CutBlock
namespace Go.Proofs.Ytalnlkcmkchjdaa
open Go.RowKit Go.Maps
set_option linter.unusedVariables false
set_option linter.unusedSimpArgs false

def Ac.val (a : Ac) : Value := .agg #[.int .i64 a.op, .int .i64 a.key, .int .i64 a.frame, .bool a.write]
theorem act_made (w : World) (a : Ac) : ActAt (w.alloc (.cells #[.int .i64 a.op, .int .i64 a.key, .int .i64 a.frame, .bool a.write] 43)) w.heap.size a := by
  show (w.heap.push _)[w.heap.size]? = some _
  exact Array.getElem?_push_size
def JPost (W0 : World) (P B M RP Rb n K : Nat) (e : Ending) (w' : World) : Prop := e = .returned (.bool true) ∧ JSt W0 P B M RP Rb n K w'

theorem up_same {f : FuncId} {args : Array Value} {w : World} {v : Value} (h : Calls Try.prog f args w fun e w' => e = .returned v ∧ w = w') : Calls Try.prog f args w fun e w' => e = .returned v ∧ Below w.heap.size w w' :=
  h.mono fun _ _ ⟨he, hw⟩ => ⟨he, hw ▸ Below.refl _ _⟩

section
variable {W0 w : World} {P B M RP Rb n K : Nat} {F : Nat → Fr} {h : Nat} {g : Int → Option Nat}

set_option maxRecDepth 100000 in
set_option maxHeartbeats 8000000 in
theorem step_any (I : KInv n F g) (pl : PlAt W0 P B M RP Rb n K F h g F h w) (a : Ac) (hk : (Lit.int .i64 a.key).wf = true) :
    Calls Try.prog 18 #[.pointer (some ⟨P, 0, none⟩), .pointer (some ⟨RP, 0, none⟩), .agg #[.int .i64 a.op, .int .i64 a.key, .int .i64 a.frame, .bool a.write]] w (JPost W0 P B M RP Rb n K) := by
  have HI := Lib.hid I
  have HK := Lib.hid hk
  have HNE := Lib.hid pl.fresh
  have HX : Hid (PlAt W0 P B M RP Rb n K F h g F h (w.alloc (.cells #[.int .i64 a.op, .int .i64 a.key, .int .i64 a.frame, .bool a.write] 43)) ∧ ActAt (w.alloc (.cells #[.int .i64 a.op, .int .i64 a.key, .int .i64 a.frame, .bool a.write] 43)) w.heap.size a) :=
    ⟨pl.up ((Below.refl _ _).alloc (Nat.le_refl _) _), act_made w a⟩
  clear I pl hk
  go_enter Try.func18, Try.ntmps18
  go_upto_region 1 with (fail)
  refine wp_forget (fun wx => PlAt W0 P B M RP Rb n K F h g F h wx ∧ ActAt wx w.heap.size a) HX.out ?_
  clear HX
  generalize w.heap.size = ab at *
  rintro wx ⟨pl, ac⟩
  obtain ⟨x0, x1, x2, x3⟩ := ac.cells
  have HPL := Lib.hid pl
  have HAC := Lib.hid ac
  have HACD := Lib.hid (ac.off (Off.of_below (S := fun _ => False) (Below.refl _ _).drew) id)
  have HPLD := Lib.hid (pl.up (Below.refl _ _).drew)
  clear pl ac
  by_cases e1 : a.op = 1
  · have f1 : (a.op == 1) = true := by simp [e1]
    clear e1
    obtain ⟨cp, pp⟩ := HPL.out.pool
    have HT := Lib.hid (Take_any (key := a.key) pp HK.out)
    have HI' := Lib.hid (take_inv (key := a.key) HI.out pp.hand)
    clear pp
    go_wp2_with fail
    refine HT.out.mono ?_
    rintro e w5 ⟨rfl, ⟨c5, p5⟩, o5⟩
    have pl5 := HPL.out.opA p5 o5
    have ac5 := HAC.out.off o5 HNE.out.1
    obtain ⟨r, hr⟩ : ∃ r, r = takeR n F h g a.key := ⟨_, rfl⟩
    rw [← hr] at pl5 ⊢
    rw [← hr] at HI'
    have HRR := Lib.hid hr
    have HNE5 := Lib.hid pl5.fresh
    have HX : Hid (PlAt W0 P B M RP Rb n K r.F r.h r.g F h (w5.alloc (.cells #[.int .i64 r.out.key, .bool r.out.used, .bool r.out.ref, .bool r.out.dirty, .int .i64 r.out.pins] 28)) ∧ ActAt (w5.alloc (.cells #[.int .i64 r.out.key, .bool r.out.used, .bool r.out.ref, .bool r.out.dirty, .int .i64 r.out.pins] 28)) ab a ∧ ROut (w5.alloc (.cells #[.int .i64 r.out.key, .bool r.out.used, .bool r.out.ref, .bool r.out.dirty, .int .i64 r.out.pins] 28)) w5.heap.size r.out) :=
      ⟨pl5.up ((Below.refl _ _).alloc (Nat.le_refl _) _), ac5.off (Off.of_below (S := fun _ => False) ((Below.refl _ _).alloc (Nat.le_refl _) _)) id, heap_alloc_new w5 _⟩
    clear p5 o5 hr pl5 ac5 HT HPL HAC x0 x1 x2 x3 f1
    unfold TakeR.val Fr.val
    go_upto_region 4 with (fail)
    refine wp_forget (fun wx => PlAt W0 P B M RP Rb n K r.F r.h r.g F h wx ∧ ActAt wx ab a ∧ ROut wx w5.heap.size r.out) HX.out ?_
    clear HX
    generalize w5.heap.size = ob at *
    rintro w6 ⟨pl, ac, ro⟩
    obtain ⟨x0, x1, x2, x3⟩ := ac.cells
    have HT := Lib.hid (RTake_any (key := a.key) pl.ref HI.out.good)
    rw [← HRR.out] at HT
    have HPL := Lib.hid pl
    have HRO := Lib.hid ro
    clear pl ac ro
    go_wp2_with fail
    refine HT.out.mono ?_
    rintro e w7 ⟨rfl, p7, o7⟩
    have pl7 := HPL.out.opB p7 o7
    have HX : Hid (PlAt W0 P B M RP Rb n K r.F r.h r.g r.F r.h (w7.alloc (.cells #[.int .i64 r.out.key, .bool r.out.used, .bool r.out.ref, .bool r.out.dirty, .int .i64 r.out.pins] 67)) ∧ ROut (w7.alloc (.cells #[.int .i64 r.out.key, .bool r.out.used, .bool r.out.ref, .bool r.out.dirty, .int .i64 r.out.pins] 67)) ob r.out ∧ RRow (w7.alloc (.cells #[.int .i64 r.out.key, .bool r.out.used, .bool r.out.ref, .bool r.out.dirty, .int .i64 r.out.pins] 67)) w7.heap.size r.out) := by
      refine ⟨pl7.up ((Below.refl _ _).alloc (Nat.le_refl _) _), ?_, heap_alloc_new w7 _⟩
      have h1 : w7.heap[ob]? = _ := (o7.block ob HRO.out.lt HNE5.out.2).trans HRO.out
      unfold ROut
      rw [Below.heap_alloc _ _ _ (Array.getElem?_eq_some_iff.1 h1).1]
      exact h1
    clear p7 o7 pl7 HT HPL HRO x0 x1 x2 x3
    unfold TakeR.val Fr.val
    go_upto_region 5 with (fail)
    refine wp_forget (fun wx => PlAt W0 P B M RP Rb n K r.F r.h r.g r.F r.h wx ∧ ROut wx ob r.out ∧ RRow wx w7.heap.size r.out) HX.out ?_
    clear HX
    generalize w7.heap.size = rb at *
    rintro w8 ⟨pl, ro, rr⟩
    obtain ⟨y0, y1, y2, y3, y4⟩ := ro.cells
    obtain ⟨z0, z1, z2, z3, z4⟩ := rr.cells
    have HPL := Lib.hid pl
    clear pl ro rr
    go_wp2_with fail
    refine (same_any r.out w8).mono ?_
    rintro e w9 ⟨rfl, hb9⟩
    have HX : Hid (JSt W0 P B M RP Rb n K w9) := ⟨_, _, _, HI'.out, HPL.out.up hb9⟩
    clear hb9 HPL
    go_wp2
    go_ret
    exact ⟨rfl, HX.out⟩
  have f1 : (a.op == 1) = false := by simp [e1]
  by_cases e2 : a.op = 2
  · have f2 : (a.op == 2) = true := by simp [e2]
    clear e1 e2
    obtain ⟨e0, F', g', hI', hA, hB⟩ := touch_p (P := P) (B := B) (M := M) (RP := RP) (Rb := Rb) (K := K) (h := h) HI.out a.frame a.write
    obtain ⟨cp, pp⟩ := HPL.out.pool
    have HA := Lib.hid (hA wx.drew cp pp.drew)
    have HB := Lib.hid hB
    have HI' := Lib.hid hI'
    clear pp hA hB hI'
    go_upto_region 7 with (fail)
    go_region_held3 (fun w' => w'.cell? ⟨ab, 2, none⟩ = some (.int .i64 a.frame) ∧ w'.cell? ⟨ab, 3, none⟩ = some (.bool a.write))
      (first | exact ⟨K2, K3⟩ | go_keep)
      (first | (go_at_call 10; refine HA.out.mono ?_; rintro e w5 ⟨rfl, ⟨c5, p5⟩, o5⟩; obtain ⟨K0, K1, K2, K3⟩ := (HACD.out.off o5 HNE.out.1).cells; have HP5 := Lib.hid (HPLD.out.opA p5 o5); clear p5 o5) | (go_at_call 29; refine (HB.out w5 HP5.out.ref).mono ?_; rintro e w6 ⟨rfl, p6, o6⟩; have K2 := (o6.cell (p := ⟨ab, 2, none⟩) (lt_of_cell K2) HNE.out.2).trans K2; have K3 := (o6.cell (p := ⟨ab, 3, none⟩) (lt_of_cell K3) HNE.out.2).trans K3; have HP6 := Lib.hid (HP5.out.opB p6 o6); clear p6 o6))
    have HX : Hid (JSt W0 P B M RP Rb n K w6) := ⟨_, _, _, HI'.out, HP6.out⟩
    clear HP6 HP5 HA HB
    go_wp2
    go_ret
    exact ⟨rfl, HX.out⟩
  have f2 : (a.op == 2) = false := by simp [e2]
  by_cases e3 : a.op = 3
  · have f3 : (a.op == 3) = true := by simp [e3]
    clear e1 e2 e3
    obtain ⟨e0, F', g', hI', hA, hB⟩ := clean_p (P := P) (B := B) (M := M) (RP := RP) (Rb := Rb) (K := K) (h := h) HI.out a.frame
    obtain ⟨cp, pp⟩ := HPL.out.pool
    have HA := Lib.hid (hA wx.drew cp pp.drew)
    have HB := Lib.hid hB
    have HI' := Lib.hid hI'
    clear pp hA hB hI'
    go_upto_region 9 with (fail)
    go_region_held3 (fun w' => w'.cell? ⟨ab, 2, none⟩ = some (.int .i64 a.frame) ∧ w'.cell? ⟨ab, 3, none⟩ = some (.bool a.write))
      (first | exact ⟨K2, K3⟩ | go_keep)
      (first | (go_at_call 30; refine HA.out.mono ?_; rintro e w5 ⟨rfl, ⟨c5, p5⟩, o5⟩; obtain ⟨K0, K1, K2, K3⟩ := (HACD.out.off o5 HNE.out.1).cells; have HP5 := Lib.hid (HPLD.out.opA p5 o5); clear p5 o5) | (go_at_call 31; refine (HB.out w5 HP5.out.ref).mono ?_; rintro e w6 ⟨rfl, p6, o6⟩; have K2 := (o6.cell (p := ⟨ab, 2, none⟩) (lt_of_cell K2) HNE.out.2).trans K2; have K3 := (o6.cell (p := ⟨ab, 3, none⟩) (lt_of_cell K3) HNE.out.2).trans K3; have HP6 := Lib.hid (HP5.out.opB p6 o6); clear p6 o6))
    have HX : Hid (JSt W0 P B M RP Rb n K w6) := ⟨_, _, _, HI'.out, HP6.out⟩
    clear HP6 HP5 HA HB
    go_wp2
    go_ret
    exact ⟨rfl, HX.out⟩
  have f3 : (a.op == 3) = false := by simp [e3]
  by_cases e4 : a.op = 4
  · have f4 : (a.op == 4) = true := by simp [e4]
    clear e1 e2 e3 e4
    obtain ⟨e0, F', g', hI', hA, hB⟩ := pin_p (P := P) (B := B) (M := M) (RP := RP) (Rb := Rb) (K := K) (h := h) HI.out a.frame
    obtain ⟨cp, pp⟩ := HPL.out.pool
    have HA := Lib.hid (hA wx.drew cp pp.drew)
    have HB := Lib.hid hB
    have HI' := Lib.hid hI'
    clear pp hA hB hI'
    go_upto_region 11 with (fail)
    go_region_held3 (fun w' => w'.cell? ⟨ab, 2, none⟩ = some (.int .i64 a.frame) ∧ w'.cell? ⟨ab, 3, none⟩ = some (.bool a.write))
      (first | exact ⟨K2, K3⟩ | go_keep)
      (first | (go_at_call 12; refine HA.out.mono ?_; rintro e w5 ⟨rfl, ⟨c5, p5⟩, o5⟩; obtain ⟨K0, K1, K2, K3⟩ := (HACD.out.off o5 HNE.out.1).cells; have HP5 := Lib.hid (HPLD.out.opA p5 o5); clear p5 o5) | (go_at_call 32; refine (HB.out w5 HP5.out.ref).mono ?_; rintro e w6 ⟨rfl, p6, o6⟩; have K2 := (o6.cell (p := ⟨ab, 2, none⟩) (lt_of_cell K2) HNE.out.2).trans K2; have K3 := (o6.cell (p := ⟨ab, 3, none⟩) (lt_of_cell K3) HNE.out.2).trans K3; have HP6 := Lib.hid (HP5.out.opB p6 o6); clear p6 o6))
    have HX : Hid (JSt W0 P B M RP Rb n K w6) := ⟨_, _, _, HI'.out, HP6.out⟩
    clear HP6 HP5 HA HB
    go_wp2
    go_ret
    exact ⟨rfl, HX.out⟩
  have f4 : (a.op == 4) = false := by simp [e4]
  by_cases e5 : a.op = 5
  · have f5 : (a.op == 5) = true := by simp [e5]
    clear e1 e2 e3 e4 e5
    obtain ⟨e0, F', g', hI', hA, hB⟩ := unpin_p (P := P) (B := B) (M := M) (RP := RP) (Rb := Rb) (K := K) (h := h) HI.out a.frame
    obtain ⟨cp, pp⟩ := HPL.out.pool
    have HA := Lib.hid (hA wx.drew cp pp.drew)
    have HB := Lib.hid hB
    have HI' := Lib.hid hI'
    clear pp hA hB hI'
    go_upto_region 13 with (fail)
    go_region_held3 (fun w' => w'.cell? ⟨ab, 2, none⟩ = some (.int .i64 a.frame) ∧ w'.cell? ⟨ab, 3, none⟩ = some (.bool a.write))
      (first | exact ⟨K2, K3⟩ | go_keep)
      (first | (go_at_call 16; refine HA.out.mono ?_; rintro e w5 ⟨rfl, ⟨c5, p5⟩, o5⟩; obtain ⟨K0, K1, K2, K3⟩ := (HACD.out.off o5 HNE.out.1).cells; have HP5 := Lib.hid (HPLD.out.opA p5 o5); clear p5 o5) | (go_at_call 33; refine (HB.out w5 HP5.out.ref).mono ?_; rintro e w6 ⟨rfl, p6, o6⟩; have K2 := (o6.cell (p := ⟨ab, 2, none⟩) (lt_of_cell K2) HNE.out.2).trans K2; have K3 := (o6.cell (p := ⟨ab, 3, none⟩) (lt_of_cell K3) HNE.out.2).trans K3; have HP6 := Lib.hid (HP5.out.opB p6 o6); clear p6 o6))
    have HX : Hid (JSt W0 P B M RP Rb n K w6) := ⟨_, _, _, HI'.out, HP6.out⟩
    clear HP6 HP5 HA HB
    go_wp2
    go_ret
    exact ⟨rfl, HX.out⟩
  have f5 : (a.op == 5) = false := by simp [e5]
  by_cases e6 : a.op = 6
  · have f6 : (a.op == 6) = true := by simp [e6]
    clear e1 e2 e3 e4 e5 e6
    obtain ⟨e0, F', g', hI', hA, hB⟩ := drop_p (P := P) (B := B) (M := M) (RP := RP) (Rb := Rb) (K := K) (h := h) HI.out a.frame
    obtain ⟨cp, pp⟩ := HPL.out.pool
    have HA := Lib.hid (hA wx.drew cp pp.drew)
    have HB := Lib.hid hB
    have HI' := Lib.hid hI'
    clear pp hA hB hI'
    go_upto_region 15 with (fail)
    go_region_held3 (fun w' => w'.cell? ⟨ab, 2, none⟩ = some (.int .i64 a.frame) ∧ w'.cell? ⟨ab, 3, none⟩ = some (.bool a.write))
      (first | exact ⟨K2, K3⟩ | go_keep)
      (first | (go_at_call 15; refine HA.out.mono ?_; rintro e w5 ⟨rfl, ⟨c5, p5⟩, o5⟩; obtain ⟨K0, K1, K2, K3⟩ := (HACD.out.off o5 HNE.out.1).cells; have HP5 := Lib.hid (HPLD.out.opA p5 o5); clear p5 o5) | (go_at_call 34; refine (HB.out w5 HP5.out.ref).mono ?_; rintro e w6 ⟨rfl, p6, o6⟩; have K2 := (o6.cell (p := ⟨ab, 2, none⟩) (lt_of_cell K2) HNE.out.2).trans K2; have K3 := (o6.cell (p := ⟨ab, 3, none⟩) (lt_of_cell K3) HNE.out.2).trans K3; have HP6 := Lib.hid (HP5.out.opB p6 o6); clear p6 o6))
    have HX : Hid (JSt W0 P B M RP Rb n K w6) := ⟨_, _, _, HI'.out, HP6.out⟩
    clear HP6 HP5 HA HB
    go_wp2
    go_ret
    exact ⟨rfl, HX.out⟩
  have f6 : (a.op == 6) = false := by simp [e6]
  have HX : Hid (JSt W0 P B M RP Rb n K wx) := ⟨_, _, _, HI.out, HPL.out⟩
  clear e1 e2 e3 e4 e5 e6
  go_wp2
  go_ret
  exact ⟨rfl, HX.out⟩

set_option maxRecDepth 100000 in
set_option maxHeartbeats 8000000 in
theorem looks_any (I : KInv n F g) (pl : PlAt W0 P B M RP Rb n K F h g F h w) (a : Ac) (hk : (Lit.int .i64 a.key).wf = true) :
    Calls Try.prog 19 #[.pointer (some ⟨P, 0, none⟩), .pointer (some ⟨RP, 0, none⟩), .agg #[.int .i64 a.op, .int .i64 a.key, .int .i64 a.frame, .bool a.write]] w (JPost W0 P B M RP Rb n K) := by
  have HI := Lib.hid I
  have HK := Lib.hid hk
  have HX : Hid (PlAt W0 P B M RP Rb n K F h g F h (w.alloc (.cells #[.int .i64 a.op, .int .i64 a.key, .int .i64 a.frame, .bool a.write] 43)) ∧ ActAt (w.alloc (.cells #[.int .i64 a.op, .int .i64 a.key, .int .i64 a.frame, .bool a.write] 43)) w.heap.size a) :=
    ⟨pl.up ((Below.refl _ _).alloc (Nat.le_refl _) _), act_made w a⟩
  obtain ⟨x, e0, hat, hrat⟩ := at_p (P := P) (B := B) (M := M) (n := n) (F := F) (h := h) (g := g) (RP := RP) (Rb := Rb) (K := K) a.frame
  have HAT := Lib.hid hat
  have HRAT := Lib.hid hrat
  clear I pl hk hat hrat
  go_enter Try.func19, Try.ntmps19
  go_upto_region 1 with (fail)
  refine wp_forget (fun wx => PlAt W0 P B M RP Rb n K F h g F h wx ∧ ActAt wx w.heap.size a) HX.out ?_
  clear HX
  generalize w.heap.size = ab at *
  rintro wx ⟨pl, ac⟩
  obtain ⟨x0, x1, x2, x3⟩ := ac.cells
  obtain ⟨cp, pp⟩ := pl.pool
  have HT := Lib.hid (HAT.out _ _ pp)
  have HPL := Lib.hid pl
  have HAC := Lib.hid ac
  clear pl ac pp
  go_wp2_with fail
  refine HT.out.mono ?_
  rintro e w2 ⟨rfl, hb⟩
  have HX : Hid (PlAt W0 P B M RP Rb n K F h g F h (w2.alloc (.cells #[.int .i64 x.key, .bool x.used, .bool x.ref, .bool x.dirty, .int .i64 x.pins] 28)) ∧ ActAt (w2.alloc (.cells #[.int .i64 x.key, .bool x.used, .bool x.ref, .bool x.dirty, .int .i64 x.pins] 28)) ab a ∧ ROut (w2.alloc (.cells #[.int .i64 x.key, .bool x.used, .bool x.ref, .bool x.dirty, .int .i64 x.pins] 28)) w2.heap.size x) :=
    ⟨(HPL.out.up hb).up ((Below.refl _ _).alloc (Nat.le_refl _) _), (HAC.out.off (Off.of_below (S := fun _ => False) hb) id).off (Off.of_below (S := fun _ => False) ((Below.refl _ _).alloc (Nat.le_refl _) _)) id, heap_alloc_new w2 _⟩
  unfold Fr.val
  clear hb HT HPL HAC x0 x1 x2 x3
  go_upto_region 2 with (fail)
  refine wp_forget (fun wx => PlAt W0 P B M RP Rb n K F h g F h wx ∧ ActAt wx ab a ∧ ROut wx w2.heap.size x) HX.out ?_
  clear HX
  generalize w2.heap.size = xb at *
  rintro w3 ⟨pl, ac, ro⟩
  obtain ⟨x0, x1, x2, x3⟩ := ac.cells
  have HT := Lib.hid (HRAT.out _ pl.ref)
  have HPL := Lib.hid pl
  have HAC := Lib.hid ac
  have HRO := Lib.hid ro
  clear pl ac ro
  go_wp2_with fail
  refine HT.out.mono ?_
  rintro e w4 ⟨rfl, hb⟩
  have HX : Hid (PlAt W0 P B M RP Rb n K F h g F h (w4.alloc (.cells #[.int .i64 x.key, .bool x.used, .bool x.ref, .bool x.dirty, .int .i64 x.pins] 67)) ∧ ActAt (w4.alloc (.cells #[.int .i64 x.key, .bool x.used, .bool x.ref, .bool x.dirty, .int .i64 x.pins] 67)) ab a ∧ ROut (w4.alloc (.cells #[.int .i64 x.key, .bool x.used, .bool x.ref, .bool x.dirty, .int .i64 x.pins] 67)) xb x ∧ RRow (w4.alloc (.cells #[.int .i64 x.key, .bool x.used, .bool x.ref, .bool x.dirty, .int .i64 x.pins] 67)) w4.heap.size x) := by
    refine ⟨(HPL.out.up hb).up ((Below.refl _ _).alloc (Nat.le_refl _) _), (HAC.out.off (Off.of_below (S := fun _ => False) hb) id).off (Off.of_below (S := fun _ => False) ((Below.refl _ _).alloc (Nat.le_refl _) _)) id, ?_, heap_alloc_new w4 _⟩
    have h1 : w4.heap[xb]? = _ := (hb.block xb HRO.out.lt).trans HRO.out
    unfold ROut
    rw [Below.heap_alloc _ _ _ (Array.getElem?_eq_some_iff.1 h1).1]
    exact h1
  unfold Fr.val
  clear hb HT HPL HAC HRO x0 x1 x2 x3
  go_upto_region 3 with (fail)
  refine wp_forget (fun wx => PlAt W0 P B M RP Rb n K F h g F h wx ∧ ActAt wx ab a ∧ ROut wx xb x ∧ RRow wx w4.heap.size x) HX.out ?_
  clear HX
  generalize w4.heap.size = yb at *
  rintro w5 ⟨pl, ac, ro, rr⟩
  obtain ⟨x0, x1, x2, x3⟩ := ac.cells
  obtain ⟨cp, pp⟩ := pl.pool
  have HT := Lib.hid (Find_any pp HK.out)
  have HT2 := Lib.hid (RFind_any pl.ref a.key)
  rw [find_same HI.out.good] at HT2
  have HC := Lib.hid (Count_any pp)
  have HPL := Lib.hid pl
  have HRO := Lib.hid ro
  have HRR := Lib.hid rr
  clear pl ac ro rr pp
  unfold findV at HT HT2
  go_wp2_with fail
  refine HT.out.mono ?_
  rintro e w6 ⟨rfl, rfl⟩
  go_wp2_with fail
  refine HT2.out.mono ?_
  rintro e w6 ⟨rfl, rfl⟩
  generalize findI g a.key = fi
  generalize (g a.key).isSome = fb
  clear HT HT2
  go_wp2_with fail
  refine HC.out.mono ?_
  rintro e w7 ⟨rfl, hb⟩
  have pl7 := HPL.out.up hb
  have HRO7 : Hid (ROut w7 xb x) := (hb.block xb HRO.out.lt).trans HRO.out
  have HRR7 := Lib.hid (HRR.out.off (Off.of_below (S := fun _ => False) hb) id)
  have HT2 := Lib.hid (RCount_any pl7.ref)
  have HPL7 := Lib.hid pl7
  clear hb pl7 HC HPL HRO HRR x0 x1 x2 x3
  go_wp2_with fail
  refine HT2.out.mono ?_
  rintro e w8 ⟨rfl, rfl⟩
  clear HT2
  generalize cntF qUsed F n = cu
  generalize cntF qDirty F n = cd
  generalize cntF qPinned F n = cn
  obtain ⟨cp, pp⟩ := HPL7.out.pool
  have HT := Lib.hid (Victim_any pp HI.out)
  clear pp
  obtain ⟨vi, vb, hv⟩ : ∃ vi vb, vicV (sw n (2 * n + 1) h F).1 = .tuple #[.int .i64 vi, .bool vb] := ⟨_, _, rfl⟩
  have HV := Lib.hid hv
  clear hv
  go_wp2_with fail
  refine HT.out.mono ?_
  rintro e w8 ⟨rfl, hb⟩
  have pl8 := HPL7.out.up hb
  have HRO8 : Hid (ROut w8 xb x) := (hb.block xb HRO7.out.lt).trans HRO7.out
  have HRR8 := Lib.hid (HRR7.out.off (Off.of_below (S := fun _ => False) hb) id)
  have HT2 := Lib.hid (RVictim_any pl8.ref HI.out)
  have HPL8 := Lib.hid pl8
  clear hb pl8 HT HPL7 HRO7 HRR7
  rw [HV.out]
  go_wp2_with fail
  refine HT2.out.mono ?_
  rintro e w9 ⟨rfl, hb⟩
  have pl9 := HPL8.out.up hb
  have ro : ROut w9 xb x := (hb.block xb HRO8.out.lt).trans HRO8.out
  have rr := HRR8.out.off (Off.of_below (S := fun _ => False) hb) id
  clear hb HT2 HPL8 HRO8 HRR8
  rw [HV.out]
  clear HV
  obtain ⟨y0, y1, y2, y3, y4⟩ := ro.cells
  obtain ⟨z0, z1, z2, z3, z4⟩ := rr.cells
  have q1 := ro.lt
  have q2 := rr.lt
  obtain ⟨cp, pp⟩ := pl9.pool
  have l1 := pl9.ref.l1
  have q3 := pl9.ref.ltP
  have HP := Lib.hid pp
  have HPL := Lib.hid pl9
  clear ro rr pl9 pp
  go_upto_region 9 with (fail)
  refine wp_region_up (by kernel_rfl) (by kernel_rfl) ?_
  repeat (go_big_quiet_step (first | (go_at_call 28; exact Calls.up_of (same_any x _)) | (go_at_call 20; exact Calls.up_of (up_same (Hand_any (HP.out.up (Up.h _)))))))
  refine wpQuiet_nil ?_
  rintro w10 ⟨⟨_, hb10⟩, rfl⟩
  have HX : Hid (JSt W0 P B M RP Rb n K w10) := ⟨_, _, _, HI.out, HPL.out.up hb10⟩
  clear hb10 HPL
  go_wp2
  go_ret
  exact ⟨rfl, HX.out⟩
end

theorem j_start {w w2 w3 : World} {P B M RP Rb n : Nat} (p2 : PoolAt w2 P B M n (fun _ => Fr.zero) 0 (fun _ => none) 0) (hb : Below w.heap.size w w2) (hP : w.heap.size ≤ P) (hB : w.heap.size ≤ B) (hM : w.heap.size ≤ M)
    (p3 : RefAt w3 RP Rb n n (fun _ => Fr.zero) 0) (hb3 : Below w2.heap.size w2 w3) (h1 : w2.heap.size ≤ RP) (h2 : w2.heap.size ≤ Rb) : JSt w P B M RP Rb n n w3 := by
  have h3 := hb.size
  have k1 := p2.ltP
  have k2 := p2.ltB
  have k3 := p2.ltM
  refine ⟨_, _, _, ⟨⟨fun j _ h => (by cases h), fun k j h => (by cases h)⟩, fun j _ => by simp [Fr.zero]⟩, ⟨⟨_, p2.up hb3⟩, p3, fun k ha hb => ?_, below_upto hb hb3 (Nat.le_refl _), hP, hB, hM, by omega, by omega⟩⟩
  unfold PB at ha
  unfold RB at hb
  omega

set_option maxRecDepth 100000 in
set_option maxHeartbeats 8000000 in
theorem plays_walk (w : World) (n : Int) (m c : Nat) (A : Option Addr) (L : Nat → Ac) (hm : m ≤ maxLen) (hA : SA w A m L) :
    Calls Try.prog 6 #[.int .i64 n, .slice A m c] w fun e w' => e = .returned (.bool true) ∧ Below w.heap.size w w' := by
  unfold maxLen at hm
  have HA := Lib.hid hA
  clear hA
  by_cases h1 : 300 < m
  · go_enter Try.func6, Try.ntmps6
    go_wp2_with fail
    refine (known_any _).mono ?_
    rintro e w1 ⟨rfl, hb1⟩
    go_wp2_with fail
    go_ret
    exact ⟨rfl, hb1⟩
  by_cases good : 1 ≤ n ∧ n ≤ 4096
  case neg =>
    have hbad : n < 1 ∨ 4096 < n := by omega
    have HBad := Lib.hid hbad
    clear good hbad
    go_enter Try.func6, Try.ntmps6
    go_wp2_with fail
    refine (known_any _).mono ?_
    rintro e w1 ⟨rfl, hb1⟩
    have HB1 := Lib.hid hb1
    clear hb1
    go_wp2_with fail
    refine (New_bad w1 n HBad.out).mono ?_
    rintro e w2 ⟨rfl, rfl⟩
    go_wp2_with fail
    refine (RNew_bad w1 n HBad.out).mono ?_
    rintro e w2 ⟨rfl, rfl⟩
    go_wp2_with fail
    go_ret
    exact ⟨rfl, HB1.out⟩
  case pos =>
    obtain ⟨h2, h3⟩ := good
    obtain ⟨n, rfl⟩ := Int.eq_ofNat_of_zero_le (show 0 ≤ n by omega)
    have h5 : 1 ≤ n := by omega
    have h6 : n ≤ 4096 := by omega
    go_enter Try.func6, Try.ntmps6
    go_wp2_with fail
    refine (known_any _).mono ?_
    rintro e w1 ⟨rfl, hb1⟩
    go_wp2_with fail
    refine (New_any w1 n (by omega) (by omega)).mono ?_
    rintro e w2 ⟨P, B, M, rfl, p2, hP, hB, hM, hb2⟩
    have hs1 := hb1.size
    have HB3 := Lib.hid (below_upto hb1 hb2 (Nat.le_refl _))
    have HP2 := Lib.hid p2
    clear hb1 hb2 p2
    go_wp2_with fail
    refine (RNew_any w2 n (by omega) (by omega)).mono ?_
    rintro e w3 ⟨RP, Rb, rfl, p3, hRP, hRb, hb3⟩
    have HK := Lib.hid (j_start HP2.out HB3.out (by omega) (by omega) (by omega) p3 hb3 hRP hRb)
    clear HP2 HB3 p3 hb3 hP hB hM hRP hRb
    go_wp2_with fail
    go_loopw [9] (fun i wr => ∃ k : Nat, k ≤ m ∧ i = .int .i64 k ∧ JSt w P B M RP Rb n n wr) (fun i _ => m - (intOf i).toNat)
    case atStart => exact ⟨0, Nat.zero_le _, rfl, HK.out⟩
    case round =>
      obtain ⟨k, hk, rfl, hst⟩ := hrel
      clear HK
      obtain ⟨F, h, g, hi, pl⟩ := hst
      by_cases hlt : k < m
      · obtain ⟨b1, o1, e1, q1, kw, d0, d1, d2, d3⟩ := HA.out.at_ pl.below hlt
        cases e1
        have HI := Lib.hid hi
        have HPL := Lib.hid pl
        have HKW := Lib.hid kw
        clear hi pl kw
        go_wp2_with fail
        refine (step_any HI.out HPL.out (L k) HKW.out).mono ?_
        rintro e w5 ⟨rfl, F5, h5', g5, hi5, pl5⟩
        obtain ⟨b2, o2, e2, q2, kw2, d0', d1', d2', d3'⟩ := HA.out.at_ pl5.below hlt
        cases e2
        have HI5 := Lib.hid hi5
        have HPL5 := Lib.hid pl5
        clear hi5 pl5 kw2 HI HPL d0 d1 d2 d3
        go_wp2_with fail
        refine (looks_any HI5.out HPL5.out (L k) HKW.out).mono ?_
        rintro e w6 ⟨rfl, hst6⟩
        have HX := Lib.hid hst6
        clear hst6 HI5 HPL5 d0' d1' d2' d3'
        go_wp2_with fail
        go_roundw
        case rel => exact ⟨k + 1, by omega, by go_num, HX.out⟩
        case measure => simp [intOf]; omega
      · have hge : m ≤ k := by omega
        have HBe := Lib.hid pl.below
        clear hlt hi pl
        go_wp2
        go_ret
        exact ⟨rfl, HBe.out⟩
end Go.Proofs.Ytalnlkcmkchjdaa
