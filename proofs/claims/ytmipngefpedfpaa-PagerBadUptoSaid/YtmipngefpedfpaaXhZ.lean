/- step of the world of almanaclaw14: Write, walked. -/
import Derived.Test.YtmipngefpedfpaaXgZ
namespace Go.Proofs.Ytmipngefpedfpaa
open Go.RowKit Go.Maps
set_option linter.unusedVariables false
set_option linter.unusedSimpArgs false

section
variable {w0 w w' w1 w2 : World} {Wb S : Nat} {d : PD} {t t' t1 t2 : PSt ShS} {R : Prop} {k k1 : Nat} {vi vb : Value} {xs : List Pe} {is : List Int} {C : Cn} {x y : Pe} {q : Nat}
set_option maxRecDepth 100000 in
set_option maxHeartbeats 8000000 in
theorem st_write_in (h : WA w0 w Wb S d t True (k + 2) vi vb xs) (hx : xs ≠ []) {page : Int} {off : Nat} {n : Int} {A : Option Addr} {nb cb : Nat} {b : Bytes} (hb : SBy w0 A nb b) (hin : off + nb ≤ d.z) :
    Calls Try.prog 18 #[.pointer (some ⟨Wb, 0, none⟩), .agg (Ac.cells ⟨2, page, (off : Int), n, A, nb, cb, b⟩)] w (StPost w0 Wb S d True k xs.length) := by
  have hb0 : Below w.heap.size w (w.alloc (.cells (Ac.cells ⟨2, page, (off : Int), n, A, nb, cb, b⟩) 54)) := (Below.refl _ _).alloc (Nat.le_refl _) _
  have HWC := Lib.hid (which_any (h.wl.up hb0) ⟨2, page, (off : Int), n, A, nb, cb, b⟩)
  have HAB := Lib.hid (AcB.new w ⟨2, page, (off : Int), n, A, nb, cb, b⟩ 54)
  have HW0 := Lib.hid (h.up' hb0)
  have HIN := Lib.hid hb
  have HF := Lib.hid (h.fresh (Nat.le_refl _))
  have HNE := Lib.hid (show 0 < xs.length from List.length_pos_iff.2 hx)
  obtain ⟨hz1, hz2⟩ := h.wl.z16
  clear h hx hb0 hb
  unfold Ac.cells at *
  simp only at HWC HAB HW0 ⊢
  go_enter Try.func18, Try.ntmps18
  go_wp2_with fail
  refine HWC.out.mono ?_
  rintro e w1 ⟨hb, ⟨hm, _⟩ | ⟨q, hq, rfl⟩⟩
  · exact absurd hm (by have := HNE.out; omega)
  have HW1 := Lib.hid (HW0.out.up' hb)
  have hab := HAB.out.up hb
  have HAB1 := Lib.hid hab
  have c0 := hab.c0
  simp only at c0
  have hqn : ¬ (q : Int) < 0 := by omega
  obtain ⟨x, hqx⟩ : ∃ x, xs[q]? = some x := ⟨_, List.getElem?_eq_getElem hq⟩
  have HQX := Lib.hid hqx
  have HXS := Lib.hid (List.mem_of_getElem? hqx)
  clear hb hab HWC HAB HW0 hqx
  go_upto_region 6 with (fail)
  clear c0
  obtain ⟨Ai, ci, hvi, _, hI⟩ := HW1.out.wl.formI
  obtain ⟨gi, rfl, _, hlg, hci⟩ := hI (by omega)
  have hcq := hci q x HQX.out
  have q0 := HW1.out.wl.c0
  have q4 := HW1.out.wl.c4
  rw [hvi] at q4
  have lW := HW1.out.wl.ltW
  have c2 := HAB1.out.c2
  have c4 := HAB1.out.c4
  simp only at c2 c4
  have lg := HAB1.out.lt
  have hqI : (q : Int) < (xs.length : Int) := by omega
  have HVI := Lib.hid hvi
  have HWR := Lib.hid (fun (W : World) (hbW : Below w1.heap.size w1 W) => vw_write (k := k + 1) (cb := cb) (HW1.out.vw.up hbW) trivial (CnX_at HW1.out.up HXS.out) (HIN.out.inV (c := cb) (HW1.out.vw.up hbW)).1 (off := off) hin (HIN.out.inV (c := cb) (HW1.out.vw.up hbW)).2)
  clear hI hci hvi
  refine wp_region_up_tail 15 (by kernel_rfl) (by kernel_rfl) (by kernel_rfl) ?_
  simp only [List.take_succ_cons, List.take_zero, List.drop_succ_cons, List.drop_zero]
  repeat (go_big_quiet_step (fail))
  refine wpQuiet_nil ?_
  rintro _ ⟨g, rfl⟩
  go_wp2_with fail
  refine (HWR.out _ g.h).mono ?_
  rintro e w3 ⟨rfl, t3, hv3, hn3, he3, hm3⟩
  have HV3 := Lib.hid hv3
  have HL3 := Lib.hid ((HW1.out.up' g.h).wl.nx hn3)
  have HM3 := Lib.hid (show t3.cm = xs.length by rw [hm3.cm, HW1.out.cm])
  have hab3 : AcB w3 w.heap.size ⟨2, page, (off : Int), n, A, nb, cb, b⟩ := (HAB1.out.up g.h).off hn3.off HF.out.1
  have HAB3 := Lib.hid hab3
  have c2' := hab3.c2
  have c4' := hab3.c4
  simp only at c2' c4'
  have lg' := hab3.lt
  have q2' := HL3.out.c2
  have lW' := HL3.out.ltW
  have o0 : decide ((off : Int) < 0) = false := decide_eq_false (by omega)
  have o1 : decide (d.z < off) = false := decide_eq_false (by omega)
  have o2 : decide ((d.z : Int) - (off : Int) < (nb : Int)) = false := decide_eq_false (by omega)
  have ow : IntKind.i64.wrap ((d.z : Int) - (off : Int)) = (d.z : Int) - (off : Int) := IntWalk.i64_in _ (by omega)
  clear hv3 hn3 he3 hm3 hab3 HWR hcq q0 q4 lW c2 c4 lg hlg HVI
  go_upto_region 7 with (fail)
  refine wp_region_up (by kernel_rfl) (by kernel_rfl) ?_
  repeat (go_big_quiet_step (fail))
  refine wpQuiet_nil ?_
  rintro _ ⟨g2, rfl⟩
  have HV4 := Lib.hid (HV3.out.up g2.h)
  have HL4 := Lib.hid (HL3.out.up g2.h)
  have hab4 := HAB3.out.up g2.h
  have c2 := hab4.c2
  have c4 := hab4.c4
  simp only at c2 c4
  have lg := hab4.lt
  clear c2' c4' lg' q2' lW' hab4 o0 o1 o2 ow HAB3 HL3 HV3
  generalize g2.world = w4 at *
  go_upto_region 9 with (fail)
  obtain ⟨A5, c5, hvb, _, hB⟩ := HL4.out.formB
  obtain ⟨gb, rfl, _, lgb, hcb⟩ := hB (by omega)
  have hcx := hcb q x HQX.out
  unfold Pe.v at hcx
  have hby := HL4.out.by_ x HXS.out
  rw [hby.len] at hcx
  have hcap := hby.cap
  have HBY := Lib.hid hby
  have q5 := HL4.out.c5
  rw [hvb] at q5
  have lW := HL4.out.ltW
  have HVB := Lib.hid hvb
  have HS4 := Lib.hid (HIN.out.inV (c := cb) HV4.out).1
  clear hB hcb hvb hby
  by_cases hcz : off = x.c
  · obtain rfl : nb = 0 := by omega
    refine wp_region_up_tail 12 (by kernel_rfl) (by kernel_rfl) (by kernel_rfl) ?_
    simp only [List.take_succ_cons, List.take_zero, List.drop_succ_cons, List.drop_zero]
    repeat (go_big_quiet_step (fail))
    refine wpQuiet_nil ?_
    rintro _ ⟨g3, rfl⟩
    refine wpList_copy_by (off := off) rfl (.tmp 125) (.tmp 127) rfl rfl rfl (HBY.out.off (S := fun _ => False) hz1 (Off.of_below g3.h) (fun e => e)) hz1 (HS4.out.up g3.h) hin (by omega) (fun h => absurd h (by omega)) ?_
    intro w5 hby5 ho5
    have HW5 := Lib.hid (WA.write HW1.out.up HQX.out (HV4.out.up g3.h) (HL4.out.up g3.h) HM3.out hby5 ho5)
    have hlen5 : (xs.set q { x with b := setB x.b off b }).length = xs.length := List.length_set ..
    have HLEN := Lib.hid hlen5
    have hqx5 : (xs.set q { x with b := setB x.b off b })[q]? = some { x with b := setB x.b off b } := by rw [List.getElem?_set, if_pos rfl, if_pos hq]
    have HR5 := Lib.hid (wread_any HW5.out trivial hqx5 0 (d.z : Int) (by omega) (by omega))
    have q25 := HW5.out.wl.c2
    have lW5 := HW5.out.wl.ltW
    clear hby5 ho5 hlen5 hqx5 q5 hcx lW lgb c2 c4 lg HBY HS4
    go_wp2_with fail
    refine HR5.out.mono ?_
    rintro e w6 ⟨rfl, t6, hw6⟩
    have HW6 := Lib.hid hw6
    clear hw6 HR5 q25 lW5
    go_wp2
    go_ret
    exact ⟨rfl, t6, _, _, _, HW6.out, by rw [HLEN.out]; exact Nat.le_succ _⟩
  · skip
    refine wp_region_up_tail 12 (by kernel_rfl) (by kernel_rfl) (by kernel_rfl) ?_
    simp only [List.take_succ_cons, List.take_zero, List.drop_succ_cons, List.drop_zero]
    repeat (go_big_quiet_step (fail))
    refine wpQuiet_nil ?_
    rintro _ ⟨g3, rfl⟩
    refine wpList_copy_by (off := off) rfl (.tmp 125) (.tmp 127) rfl rfl rfl (HBY.out.off (S := fun _ => False) hz1 (Off.of_below g3.h) (fun e => e)) hz1 (HS4.out.up g3.h) hin rfl (fun _ => rfl) ?_
    intro w5 hby5 ho5
    have HW5 := Lib.hid (WA.write HW1.out.up HQX.out (HV4.out.up g3.h) (HL4.out.up g3.h) HM3.out hby5 ho5)
    have hlen5 : (xs.set q { x with b := setB x.b off b }).length = xs.length := List.length_set ..
    have HLEN := Lib.hid hlen5
    have hqx5 : (xs.set q { x with b := setB x.b off b })[q]? = some { x with b := setB x.b off b } := by rw [List.getElem?_set, if_pos rfl, if_pos hq]
    have HR5 := Lib.hid (wread_any HW5.out trivial hqx5 0 (d.z : Int) (by omega) (by omega))
    have q25 := HW5.out.wl.c2
    have lW5 := HW5.out.wl.ltW
    clear hby5 ho5 hlen5 hqx5 q5 hcx lW lgb c2 c4 lg HBY HS4
    go_wp2_with fail
    refine HR5.out.mono ?_
    rintro e w6 ⟨rfl, t6, hw6⟩
    have HW6 := Lib.hid hw6
    clear hw6 HR5 q25 lW5
    go_wp2
    go_ret
    exact ⟨rfl, t6, _, _, _, HW6.out, by rw [HLEN.out]; exact Nat.le_succ _⟩
end
end Go.Proofs.Ytmipngefpedfpaa
