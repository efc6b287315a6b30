/- step of the world of almanaclaw14: no act of a kind; Evict. -/
import Derived.Test.YtmipngefpedfpaaMY
namespace Go.Proofs.Ytmipngefpedfpaa
open Go.RowKit Go.Maps
set_option linter.unusedVariables false
set_option linter.unusedSimpArgs false

section
variable {w0 w w' w1 w2 : World} {Wb S : Nat} {d : PD} {t t' t1 t2 : PSt ShS} {R : Prop} {k k1 : Nat} {vi vb : Value} {xs : List Pe} {is : List Int} {C : Cn}
theorem WA.fresh (h : WA w0 w Wb S d t R k vi vb xs) {b : Nat} (hb : w.heap.size ≤ b) : ¬ Own d t b ∧ ¬ LB Wb vi vb xs b := ⟨fun e => by have := h.vw.lt e; omega, fun e => by have := h.wl.lt e; omega⟩
set_option maxRecDepth 100000 in
set_option maxHeartbeats 8000000 in
theorem st_else (h : WA w0 w Wb S d t True (k + 1) vi vb xs) {a : Ac} (ha : a.In w) (hx : xs ≠ []) (h1 : a.op ≠ 1) (h2 : a.op ≠ 2) (h3 : a.op ≠ 3) (h4 : a.op ≠ 4) (h5 : a.op ≠ 5) (h6 : a.op ≠ 6) (h7 : a.op ≠ 7) (h8 : a.op ≠ 8) :
    Calls Try.prog 18 #[.pointer (some ⟨Wb, 0, none⟩), .agg a.cells] w (StPost w0 Wb S d True k xs.length) := by
  obtain ⟨op, page, off, n, A, nb, cb, b⟩ := a
  have hb0 : Below w.heap.size w (w.alloc (.cells (Ac.cells ⟨op, page, off, n, A, nb, cb, b⟩) 54)) := (Below.refl _ _).alloc (Nat.le_refl _) _
  have HWC := Lib.hid (which_any (h.wl.up hb0) ⟨op, page, off, n, A, nb, cb, b⟩)
  have HAB := Lib.hid (AcB.new w ⟨op, page, off, n, A, nb, cb, b⟩ 54)
  have HW0 := Lib.hid (h.up' hb0)
  have HIN := Lib.hid ha
  have HNE := Lib.hid (show 0 < xs.length from List.length_pos_iff.2 hx)
  simp only at h1 h2 h3 h4 h5 h6 h7 h8
  have e1 : (op == 1) = false := by simpa using h1
  have e2 : (op == 2) = false := by simpa using h2
  have e3 : (op == 3) = false := by simpa using h3
  have e4 : (op == 4) = false := by simpa using h4
  have e5 : (op == 5) = false := by simpa using h5
  have e6 : (op == 6) = false := by simpa using h6
  have e7 : (op == 7) = false := by simpa using h7
  have e8 : (op == 8) = false := by simpa using h8
  clear h ha hx hb0 h1 h2 h3 h4 h5 h6 h7 h8
  unfold Ac.cells at *
  simp only at HWC HAB HW0 ⊢
  go_enter Try.func18, Try.ntmps18
  go_wp2_with fail
  refine HWC.out.mono ?_
  rintro e w1 ⟨hb, ⟨hm, _⟩ | ⟨q, hq, rfl⟩⟩
  · exact absurd hm (by have := HNE.out; omega)
  have HW1 := Lib.hid (HW0.out.up' hb)
  have hab := HAB.out.up hb
  have c0 := hab.c0
  have c2 := hab.c2
  have c3 := hab.c3
  simp only at c0 c2 c3
  have hqn : ¬ (q : Int) < 0 := by omega
  obtain ⟨x, hqx⟩ : ∃ x, xs[q]? = some x := ⟨_, List.getElem?_eq_getElem hq⟩
  have HR := Lib.hid (wread_any HW1.out trivial hqx off n HIN.out.n HIN.out.o)
  clear hb hab HWC HAB HW0
  go_wp2_with fail
  refine HR.out.mono ?_
  rintro e w2 ⟨rfl, t2, hw2⟩
  have HW2 := Lib.hid hw2
  clear hw2 HR c0 c2 c3
  go_wp2
  go_ret
  exact ⟨rfl, t2, vi, vb, xs, HW2.out, Nat.le_succ _⟩
set_option maxRecDepth 100000 in
set_option maxHeartbeats 8000000 in
theorem st_evict (h : WA w0 w Wb S d t True (k + 5000) vi vb xs) {a : Ac} (ha : a.In w) (h6 : a.op = 6) :
    Calls Try.prog 18 #[.pointer (some ⟨Wb, 0, none⟩), .agg a.cells] w (StPost w0 Wb S d True k xs.length) := by
  obtain ⟨op, page, off, n, A, nb, cb, b⟩ := a
  simp only at h6
  subst h6
  have hb0 : Below w.heap.size w (w.alloc (.cells (Ac.cells ⟨6, page, off, n, A, nb, cb, b⟩) 54)) := (Below.refl _ _).alloc (Nat.le_refl _) _
  have HWC := Lib.hid (which_any (h.wl.up hb0) ⟨6, page, off, n, A, nb, cb, b⟩)
  have HAB := Lib.hid (AcB.new w ⟨6, page, off, n, A, nb, cb, b⟩ 54)
  have HW0 := Lib.hid (h.up' hb0)
  have HF := Lib.hid (h.fresh (Nat.le_refl _))
  have HIN := Lib.hid ha
  have hmost := h.vw.at_.pool.most
  clear h ha hb0
  unfold Ac.cells at *
  simp only at HWC HAB HW0 ⊢
  go_enter Try.func18, Try.ntmps18
  go_wp2_with fail
  refine HWC.out.mono ?_
  rintro e w1 ⟨hb, hq⟩
  obtain ⟨ki, rfl, hki⟩ : ∃ ki : Int, e = .returned (.int .i64 ki) ∧ (ki = -1 ∨ 0 ≤ ki) := by
    rcases hq with ⟨_, rfl⟩ | ⟨q, _, rfl⟩
    · exact ⟨_, rfl, .inl rfl⟩
    · exact ⟨_, rfl, .inr (by omega)⟩
  have HW1 := Lib.hid (HW0.out.up' hb)
  have hab := HAB.out.up hb
  have HAB1 := Lib.hid hab
  have c0 := hab.c0
  simp only at c0
  have q0 := HW1.out.wl.c0
  have HH := Lib.hid (held_any HW1.out.vw.at_)
  have HE := Lib.hid (fun (W : World) (hbW : Below w1.heap.size w1 W) => vw_evict (k := k) ((HW1.out.vw.up hbW).less (by omega)) n)
  have hu := cntF_le qUsed t.F d.n
  clear hb hq hab HWC HAB HW0
  generalize cntF qUsed t.F d.n = u at *
  rcases hki with rfl | hki
  all_goals
    go_wp2_with fail
    refine HH.out.mono ?_
    rintro e w2 ⟨rfl, hb2⟩
    have HB2 := Lib.hid hb2
    have hab2 := HAB1.out.up hb2
    have c3 := hab2.c3
    have c0' := hab2.c0
    simp only at c3 c0'
    have q02 := (HW1.out.up' hb2).wl.c0
    have lc := lt_of_cell c3
    have lq := lt_of_cell q02
    clear hb2 hab2 HH q0
    go_upto_region 41 with (fail)
    refine wp_region_up_tail 6 (by kernel_rfl) (by kernel_rfl) (by kernel_rfl) ?_
    simp only [List.take_succ_cons, List.take_zero, List.drop_succ_cons, List.drop_zero]
    repeat (go_big_quiet_step (fail))
    refine wpQuiet_nil ?_
    rintro _ ⟨g, rfl⟩
    have hbg := HB2.out.trans (g.h.mono HB2.out.size)
    go_wp2_with fail
    refine (HE.out _ hbg).mono ?_
    rintro e w3 ⟨t3, j, rfl, hv3, hn3, he3, hm3, hcj, hlj⟩
    have HW3 := Lib.hid ((HW1.out.up' hbg).nx hv3 hn3 hm3)
    have hgk := hn3.keep (b := w.heap.size) (Nat.lt_of_lt_of_le HAB1.out.lt hbg.size) HF.out.1
    have hab3 : AcB w3 w.heap.size ⟨6, page, off, n, A, nb, cb, b⟩ := (HAB1.out.up hbg).off hn3.off HF.out.1
    have c3' := hab3.c3
    simp only at c3'
    have q03 := HW3.out.wl.c0
    have HH3 := Lib.hid (held_any HW3.out.vw.at_)
    have HCJ := Lib.hid hcj
    generalize cntF qUsed t3.F d.n = u3 at *
    have hw : wrap64 ((u : Int) - (j : Int)) = (u : Int) - (j : Int) := by have := HCJ.out; unfold wrap64; omega
    have hw2 : IntKind.i64.wrap ((u : Int) - (j : Int)) = (u : Int) - (j : Int) := IntWalk.i64_in _ (by have := HCJ.out; omega)
    have heq : ((u3 : Int) == (u : Int) - (j : Int)) = true := by have := HCJ.out; simp; omega
    clear hv3 hn3 he3 hm3 hgk hab3 hbg hcj HE c3 c0' q02 lc lq HB2
    by_cases hn1 : n < 1
    · obtain rfl : j = 0 := by omega
      clear hlj
      go_wp2_with fail
      refine HH3.out.mono ?_
      rintro e w4 ⟨rfl, hb4⟩
      have HW4 := Lib.hid (HW3.out.up' hb4)
      clear hb4 HH3
      go_wp2
      go_ret
      exact ⟨ret_bool (show ((u3 : Int) == (u : Int)) = true by have := HCJ.out; simp; omega), t3, vi, vb, xs, HW4.out, Nat.le_succ _⟩
    · have hjn : (j : Int) ≤ n := by omega
      have hjn0 : 0 ≤ (j : Int) := by omega
      clear hlj
      go_wp2_with fail
      refine HH3.out.mono ?_
      rintro e w4 ⟨rfl, hb4⟩
      have HW4 := Lib.hid (HW3.out.up' hb4)
      clear hb4 HH3
      go_wp2
      go_ret
      exact ⟨rfl, t3, vi, vb, xs, HW4.out, Nat.le_succ _⟩
end
end Go.Proofs.Ytmipngefpedfpaa
