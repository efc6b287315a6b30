/- step of the world of almanaclaw14: Copy. -/
import Derived.Test.YtmipngefpedfpaaXiZ
namespace Go.Proofs.Ytmipngefpedfpaa
open Go.RowKit Go.Maps
set_option linter.unusedVariables false
set_option linter.unusedSimpArgs false

section
variable {w0 w w' w1 w2 : World} {Wb S : Nat} {d : PD} {t t' t1 t2 : PSt ShS} {R : Prop} {k k1 : Nat} {vi vb : Value} {xs : List Pe} {is : List Int} {C : Cn} {x y : Pe} {q : Nat}
theorem mk_copy (h : WA w0 w Wb S d t True (k + 2) vi vb xs) (hx : x ∈ xs) : Calls Try.prog 14 #[.pointer (some ⟨d.Q, 0, none⟩), .int .i64 x.id] w fun e w' => e = .returned (.tuple #[.int .i64 (t.nx : Nat), .int .i64 0]) ∧ ∃ t', MkS w0 w w' Wb S d t t' True k vi vb xs x.b := by
  refine (vw_copy h.vw trivial (CnX_at h.up hx)).mono ?_
  rintro e w' ⟨rfl, t', hv, hn, hx, hc⟩
  exact ⟨rfl, t', hv, h.wl.nx hn, hn, by rw [hc, h.cm]⟩
/-- more, of bytes that a page of the law's holds. -/
theorem mk_more2 {b : Bytes} (h : WA w0 w Wb S d t R k1 vi vb xs) {W V : World} (hm : MkS w0 W V Wb S d t t' R k vi vb xs b) (hf : xs.length < 999) {V' : World} (hV : Below V.heap.size V V') {A : Option Addr} {n c : Nat} (hS : SBy V' A n b) (hn : n = d.z) (hA : VIn (fun k => k ≠ Wb ∧ vi.ownBlock ≠ some k) (.slice A n c)) :
    Calls Try.prog 39 #[.pointer (some ⟨Wb, 0, none⟩), .int .i64 (t.nx : Nat), .slice A n c] V' fun e w' => e = .returned (.bool true) ∧ StPost w0 Wb S d R k xs.length (.returned (.bool true)) w' := by
  refine (more_any (hm.vw.up hV) (hm.wl.up hV) h.up (fun x hx => (h.ids hx).2.1) hm.cm (by omega) hS hn hA).mono ?_
  rintro e w' ⟨rfl, vi', vb', B, c, hw⟩
  exact ⟨rfl, rfl, t', vi', vb', _, hw, by simp⟩
set_option maxRecDepth 100000 in
set_option maxHeartbeats 8000000 in
theorem st_copy (h : WA w0 w Wb S d t True (k + 2) vi vb xs) (hx : xs ≠ []) (hf : xs.length < 999) {page off n : Int} {A : Option Addr} {nb cb : Nat} {b : Bytes} :
    Calls Try.prog 18 #[.pointer (some ⟨Wb, 0, none⟩), .agg (Ac.cells ⟨3, page, off, n, A, nb, cb, b⟩)] w (StPost w0 Wb S d True k xs.length) := by
  have hb0 : Below w.heap.size w (w.alloc (.cells (Ac.cells ⟨3, page, off, n, A, nb, cb, b⟩) 54)) := (Below.refl _ _).alloc (Nat.le_refl _) _
  have HWC := Lib.hid (which_any (h.wl.up hb0) ⟨3, page, off, n, A, nb, cb, b⟩)
  have HAB := Lib.hid (AcB.new w ⟨3, page, off, n, A, nb, cb, b⟩ 54)
  have HW0 := Lib.hid (h.up' hb0)
  have HNE := Lib.hid (show 0 < xs.length from List.length_pos_iff.2 hx)
  obtain ⟨hz1, hz2⟩ := h.wl.z16
  clear h hx hb0
  unfold Ac.cells at *
  simp only at HWC HAB HW0 ⊢
  go_enter Try.func18, Try.ntmps18
  go_wp2_with fail
  refine HWC.out.mono ?_
  rintro e w1 ⟨hb, ⟨hm, _⟩ | ⟨q, hq, rfl⟩⟩
  · exact absurd hm (by have := HNE.out; omega)
  have HW1 := Lib.hid (HW0.out.up' hb)
  have hab := HAB.out.up hb
  have c0 := hab.c0
  simp only at c0
  have hqn : ¬ (q : Int) < 0 := by omega
  obtain ⟨x, hqx⟩ : ∃ x, xs[q]? = some x := ⟨_, List.getElem?_eq_getElem hq⟩
  have HQX := Lib.hid hqx
  have HXS := Lib.hid (List.mem_of_getElem? hqx)
  clear hb hab HWC HAB HW0 hqx
  go_upto_region 12 with (fail)
  clear c0
  obtain ⟨Ai, ci, hvi, _, hI⟩ := HW1.out.wl.formI
  obtain ⟨gi, rfl, _, hlg, hci⟩ := hI (by omega)
  have hcq := hci q x HQX.out
  have q0 := HW1.out.wl.c0
  have q4 := HW1.out.wl.c4
  rw [hvi] at q4
  have lW := HW1.out.wl.ltW
  have hqI : (q : Int) < (xs.length : Int) := by omega
  have HMK := Lib.hid (fun (W : World) (hbW : Below w1.heap.size w1 W) => mk_copy (k := k) (HW1.out.up' hbW) HXS.out)
  clear hI hci hvi
  refine wp_region_up_tail 11 (by kernel_rfl) (by kernel_rfl) (by kernel_rfl) ?_
  simp only [List.take_succ_cons, List.take_zero, List.drop_succ_cons, List.drop_zero]
  repeat (go_big_quiet_step (fail))
  refine wpQuiet_nil ?_
  rintro _ ⟨g, rfl⟩
  go_wp2_with fail
  refine (HMK.out _ g.h).mono ?_
  rintro e w3 ⟨rfl, t3, hm3⟩
  have HM3 := Lib.hid hm3
  obtain ⟨A5, c5, hvb, _, hB⟩ := hm3.wl.formB
  obtain ⟨gb, rfl, _, lgb, hcb⟩ := hB (by omega)
  have hcx := hcb q x HQX.out
  unfold Pe.v at hcx
  have hby := hm3.wl.by_ x HXS.out
  rw [hby.len] at hcx
  have q5 := hm3.wl.c5
  rw [hvb] at q5
  have lW3 := hm3.wl.ltW
  have HMO := Lib.hid (mk_more2 (c := x.c) HW1.out hm3 hf (Below.refl _ _) hby.sby rfl (fun b' o n' c' e hn => by cases e; exact ⟨(hm3.wl.nxW x HXS.out).1, (hm3.wl.nxW x HXS.out).2.1⟩))
  clear hm3 hB hcb hvb hby HMK hcq hlg q0 q4 lW
  go_wp2_with fail
  refine HMO.out.mono ?_
  rintro e w4 ⟨rfl, hq4⟩
  have HQ4 := Lib.hid hq4
  clear hq4 HMO q5 lW3 hcx lgb
  go_wp2
  go_ret
  exact HQ4.out
end
end Go.Proofs.Ytmipngefpedfpaa
