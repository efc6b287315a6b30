/- step of the world of almanaclaw14: Write outside of the page. -/
import Derived.Test.YtmipngefpedfpaaXhZ
namespace Go.Proofs.Ytmipngefpedfpaa
open Go.RowKit Go.Maps
set_option linter.unusedVariables false
set_option linter.unusedSimpArgs false

section
variable {w0 w w' w1 w2 : World} {Wb S : Nat} {d : PD} {t t' t1 t2 : PSt ShS} {R : Prop} {k k1 : Nat} {vi vb : Value} {xs : List Pe} {is : List Int} {C : Cn} {x y : Pe} {q : Nat}
set_option maxRecDepth 100000 in
set_option maxHeartbeats 8000000 in
theorem st_write_out (h : WA w0 w Wb S d t True (k + 2) vi vb xs) (hx : xs ≠ []) {page off n : Int} {A : Option Addr} {nb cb : Nat} {b : Bytes} (hb : SBy w0 A nb b) (ho : -9223372036854775808 ≤ off ∧ off ≤ 9223372036854775807) (hm : nb ≤ 2 ^ 40) (hin : ¬ (0 ≤ off ∧ off ≤ (d.z : Int) ∧ (nb : Int) ≤ (d.z : Int) - off)) :
    Calls Try.prog 18 #[.pointer (some ⟨Wb, 0, none⟩), .agg (Ac.cells ⟨2, page, off, n, A, nb, cb, b⟩)] w (StPost w0 Wb S d True k xs.length) := by
  have hb0 : Below w.heap.size w (w.alloc (.cells (Ac.cells ⟨2, page, off, n, A, nb, cb, b⟩) 54)) := (Below.refl _ _).alloc (Nat.le_refl _) _
  have HWC := Lib.hid (which_any (h.wl.up hb0) ⟨2, page, off, n, A, nb, cb, b⟩)
  have HAB := Lib.hid (AcB.new w ⟨2, page, off, n, A, nb, cb, b⟩ 54)
  have HW0 := Lib.hid (h.up' hb0)
  have HIN := Lib.hid hb
  have HF := Lib.hid (h.fresh (Nat.le_refl _))
  have HNE := Lib.hid (show 0 < xs.length from List.length_pos_iff.2 hx)
  obtain ⟨hz1, hz2⟩ := h.wl.z16
  clear h hx hb0 hb
  unfold Ac.cells at *
  simp only at HWC HAB HW0 ⊢
  go_enter Try.func18, Try.ntmps18
  go_wp2_with fail
  refine HWC.out.mono ?_
  rintro e w1 ⟨hb, ⟨hm0, _⟩ | ⟨q, hq, rfl⟩⟩
  · exact absurd hm0 (by have := HNE.out; omega)
  have HW1 := Lib.hid (HW0.out.up' hb)
  have hab := HAB.out.up hb
  have HAB1 := Lib.hid hab
  have c0 := hab.c0
  simp only at c0
  have hqn : ¬ (q : Int) < 0 := by omega
  obtain ⟨x, hqx⟩ : ∃ x, xs[q]? = some x := ⟨_, List.getElem?_eq_getElem hq⟩
  have HQX := Lib.hid hqx
  have HXS := Lib.hid (List.mem_of_getElem? hqx)
  clear hb hab HWC HAB HW0 hqx
  go_upto_region 6 with (fail)
  clear c0
  obtain ⟨Ai, ci, hvi, _, hI⟩ := HW1.out.wl.formI
  obtain ⟨gi, rfl, _, hlg, hci⟩ := hI (by omega)
  have hcq := hci q x HQX.out
  have q0 := HW1.out.wl.c0
  have q4 := HW1.out.wl.c4
  rw [hvi] at q4
  have lW := HW1.out.wl.ltW
  have c2 := HAB1.out.c2
  have c4 := HAB1.out.c4
  simp only at c2 c4
  have lg := HAB1.out.lt
  have hqI : (q : Int) < (xs.length : Int) := by omega
  have HVI := Lib.hid hvi
  have HWR := Lib.hid (fun (W : World) (hbW : Below w1.heap.size w1 W) => vw_write_out (k := k + 1) (cb := cb) (HW1.out.vw.up hbW) (CnX_at HW1.out.up HXS.out) (HIN.out.inV (c := cb) (HW1.out.vw.up hbW)).1 hm (off := off) (by rw [Bool.eq_false_iff]; intro e; have := inB_iff.1 e; exact hin ⟨by omega, by omega, by omega⟩) (HW1.out.ids HXS.out).2.2.1 (HIN.out.inV (c := cb) (HW1.out.vw.up hbW)).2)
  clear hI hci hvi
  by_cases c1 : off < 0
  · clear hin
    refine wp_region_up_tail 15 (by kernel_rfl) (by kernel_rfl) (by kernel_rfl) ?_
    simp only [List.take_succ_cons, List.take_zero, List.drop_succ_cons, List.drop_zero]
    repeat (go_big_quiet_step (fail))
    refine wpQuiet_nil ?_
    rintro _ ⟨g, rfl⟩
    go_wp2_with fail
    refine (HWR.out _ g.h).mono ?_
    rintro e w3 ⟨rfl, t3, hv3, hn3, hm3⟩
    have HW3 := Lib.hid ((HW1.out.up' g.h).nx hv3 hn3 hm3)
    have hab3 : AcB w3 w.heap.size ⟨2, page, off, n, A, nb, cb, b⟩ := (HAB1.out.up g.h).off hn3.off HF.out.1
    have c2' := hab3.c2
    have c4' := hab3.c4
    simp only at c2' c4'
    have lg' := hab3.lt
    have q2' := HW3.out.wl.c2
    have lW' := HW3.out.wl.ltW
    have o0 : decide (off < 0) = true := decide_eq_true (by omega)
    clear hv3 hn3 hm3 hab3 HWR hcq q0 q4 lW c2 c4 lg hlg HVI
    go_upto_region 7 with (fail)
    refine wp_region_up (by kernel_rfl) (by kernel_rfl) ?_
    repeat (go_big_quiet_step (fail))
    refine wpQuiet_nil ?_
    rintro _ ⟨g2, rfl⟩
    have HW4 := Lib.hid (HW3.out.up' g2.h)
    have HR5 := Lib.hid (wread_any HW4.out trivial HQX.out 0 (d.z : Int) (by omega) (by omega))
    have q25 := HW4.out.wl.c2
    have lW5 := HW4.out.wl.ltW
    clear c2' c4' lg' q2' lW' HW3
    go_wp2_with fail
    refine HR5.out.mono ?_
    rintro e w6 ⟨rfl, t6, hw6⟩
    have HW6 := Lib.hid hw6
    clear hw6 HR5 q25 lW5
    go_wp2
    go_ret
    exact ⟨rfl, t6, _, _, _, HW6.out, Nat.le_succ _⟩
  by_cases c3 : (d.z : Int) < off
  · clear hin
    refine wp_region_up_tail 15 (by kernel_rfl) (by kernel_rfl) (by kernel_rfl) ?_
    simp only [List.take_succ_cons, List.take_zero, List.drop_succ_cons, List.drop_zero]
    repeat (go_big_quiet_step (fail))
    refine wpQuiet_nil ?_
    rintro _ ⟨g, rfl⟩
    go_wp2_with fail
    refine (HWR.out _ g.h).mono ?_
    rintro e w3 ⟨rfl, t3, hv3, hn3, hm3⟩
    have HW3 := Lib.hid ((HW1.out.up' g.h).nx hv3 hn3 hm3)
    have hab3 : AcB w3 w.heap.size ⟨2, page, off, n, A, nb, cb, b⟩ := (HAB1.out.up g.h).off hn3.off HF.out.1
    have c2' := hab3.c2
    have c4' := hab3.c4
    simp only at c2' c4'
    have lg' := hab3.lt
    have q2' := HW3.out.wl.c2
    have lW' := HW3.out.wl.ltW
    have o0 : decide (off < 0) = false := decide_eq_false (by omega)
    have o1 : decide ((d.z : Int) < off) = true := decide_eq_true (by omega)
    clear hv3 hn3 hm3 hab3 HWR hcq q0 q4 lW c2 c4 lg hlg HVI
    go_upto_region 7 with (fail)
    refine wp_region_up (by kernel_rfl) (by kernel_rfl) ?_
    repeat (go_big_quiet_step (fail))
    refine wpQuiet_nil ?_
    rintro _ ⟨g2, rfl⟩
    have HW4 := Lib.hid (HW3.out.up' g2.h)
    have HR5 := Lib.hid (wread_any HW4.out trivial HQX.out 0 (d.z : Int) (by omega) (by omega))
    have q25 := HW4.out.wl.c2
    have lW5 := HW4.out.wl.ltW
    clear c2' c4' lg' q2' lW' HW3
    go_wp2_with fail
    refine HR5.out.mono ?_
    rintro e w6 ⟨rfl, t6, hw6⟩
    have HW6 := Lib.hid hw6
    clear hw6 HR5 q25 lW5
    go_wp2
    go_ret
    exact ⟨rfl, t6, _, _, _, HW6.out, Nat.le_succ _⟩
  by_cases c4 : (d.z : Int) - off < (nb : Int)
  · clear hin
    refine wp_region_up_tail 15 (by kernel_rfl) (by kernel_rfl) (by kernel_rfl) ?_
    simp only [List.take_succ_cons, List.take_zero, List.drop_succ_cons, List.drop_zero]
    repeat (go_big_quiet_step (fail))
    refine wpQuiet_nil ?_
    rintro _ ⟨g, rfl⟩
    go_wp2_with fail
    refine (HWR.out _ g.h).mono ?_
    rintro e w3 ⟨rfl, t3, hv3, hn3, hm3⟩
    have HW3 := Lib.hid ((HW1.out.up' g.h).nx hv3 hn3 hm3)
    have hab3 : AcB w3 w.heap.size ⟨2, page, off, n, A, nb, cb, b⟩ := (HAB1.out.up g.h).off hn3.off HF.out.1
    have c2' := hab3.c2
    have c4' := hab3.c4
    simp only at c2' c4'
    have lg' := hab3.lt
    have q2' := HW3.out.wl.c2
    have lW' := HW3.out.wl.ltW
    have o0 : decide (off < 0) = false := decide_eq_false (by omega)
    have o1 : decide ((d.z : Int) < off) = false := decide_eq_false (by omega)
    have ow : IntKind.i64.wrap ((d.z : Int) - off) = (d.z : Int) - off := IntWalk.i64_in _ (by omega)
    have o2 : decide ((d.z : Int) - off < (nb : Int)) = true := decide_eq_true (by omega)
    clear hv3 hn3 hm3 hab3 HWR hcq q0 q4 lW c2 c4 lg hlg HVI
    go_upto_region 7 with (fail)
    refine wp_region_up (by kernel_rfl) (by kernel_rfl) ?_
    repeat (go_big_quiet_step (fail))
    refine wpQuiet_nil ?_
    rintro _ ⟨g2, rfl⟩
    have HW4 := Lib.hid (HW3.out.up' g2.h)
    have HR5 := Lib.hid (wread_any HW4.out trivial HQX.out 0 (d.z : Int) (by omega) (by omega))
    have q25 := HW4.out.wl.c2
    have lW5 := HW4.out.wl.ltW
    clear c2' c4' lg' q2' lW' HW3
    go_wp2_with fail
    refine HR5.out.mono ?_
    rintro e w6 ⟨rfl, t6, hw6⟩
    have HW6 := Lib.hid hw6
    clear hw6 HR5 q25 lW5
    go_wp2
    go_ret
    exact ⟨rfl, t6, _, _, _, HW6.out, Nat.le_succ _⟩
  exact absurd ⟨by omega, by omega, by omega⟩ hin
end
end Go.Proofs.Ytmipngefpedfpaa
