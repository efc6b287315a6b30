/- step of the world of almanaclaw14: Save. -/
import Derived.Test.YtmipngefpedfpaaXnZ
import Derived.Deep.DrawnRows
namespace Go.Proofs.Ytmipngefpedfpaa
open Go.RowKit Go.Maps
set_option linter.unusedVariables false
set_option linter.unusedSimpArgs false
attribute [local go_sem ↓] Go.wp_at_zero Go.wp_at_succ

section
variable {w0 w w' w1 w2 : World} {Wb S : Nat} {d : PD} {t t' t1 t2 : PSt ShS} {R : Prop} {k k1 : Nat} {vi vb : Value} {xs : List Pe} {is : List Int} {C : Cn} {x y : Pe} {q : Nat}
set_option maxRecDepth 100000 in
set_option maxHeartbeats 8000000 in
theorem st_save (h : WA w0 w Wb S d t True (k + 10) vi vb xs) (hx : xs ≠ []) {page off n : Int} {A : Option Addr} {nb cb : Nat} {b : Bytes} (hn : -9223372036854775808 ≤ n ∧ n ≤ 9223372036854775807) (ho : -9223372036854775808 ≤ off ∧ off ≤ 9223372036854775807) :
    Calls Try.prog 18 #[.pointer (some ⟨Wb, 0, none⟩), .agg (Ac.cells ⟨5, page, off, n, A, nb, cb, b⟩)] w (StPost w0 Wb S d True k xs.length) := by
  have hb0 : Below w.heap.size w (w.alloc (.cells (Ac.cells ⟨5, page, off, n, A, nb, cb, b⟩) 54)) := (Below.refl _ _).alloc (Nat.le_refl _) _
  have HWC := Lib.hid (which_any (h.wl.up hb0) ⟨5, page, off, n, A, nb, cb, b⟩)
  have HAB := Lib.hid (show Ax w0 (w.alloc (.cells (Ac.cells ⟨5, page, off, n, A, nb, cb, b⟩) 54)) d t Wb vi vb xs w.heap.size ⟨5, page, off, n, A, nb, cb, b⟩ from ⟨AcB.new w ⟨5, page, off, n, A, nb, cb, b⟩ 54, h.bes (Nat.le_refl _)⟩)
  have HW0 := Lib.hid (h.up' hb0)
  have HNE := Lib.hid (show 0 < xs.length from List.length_pos_iff.2 hx)
  have HBN := Lib.hid (And.intro hn ho)
  obtain ⟨hz1, hz2⟩ := h.wl.z16
  have hfew := h.wl.few.1
  clear h hx hb0 hn ho
  unfold Ac.cells at *
  simp only at HWC HAB HW0 ⊢
  go_enter Try.func18, Try.ntmps18
  go_wp2_with fail
  refine HWC.out.mono ?_
  rintro e w1 ⟨hb, ⟨hm, _⟩ | ⟨q, hq, rfl⟩⟩
  · exact absurd hm (by have := HNE.out; omega)
  have HW1 := Lib.hid (HW0.out.up' hb)
  have HA1 := Lib.hid (HAB.out.up hb)
  have c0 := HA1.out.1.c0
  simp only at c0
  have hqn : ¬ (q : Int) < 0 := by omega
  obtain ⟨x, hqx⟩ : ∃ x, xs[q]? = some x := ⟨_, List.getElem?_eq_getElem hq⟩
  have HQX := Lib.hid hqx
  have HXS := Lib.hid (List.mem_of_getElem? hqx)
  clear hb HWC HAB HW0 hqx
  have q1 := HW1.out.wl.c1
  obtain ⟨Ar, cr, qS⟩ := HW1.out.vw.rows
  have lW := HW1.out.wl.ltW
  have lS := HW1.out.vw.ltS
  generalize w.heap.size = ga at *
  go_upto_region 25 with (fail)
  refine wp_forget (fun V => WA w0 V Wb S d t True (k + 10) vi vb xs ∧ Ax w0 V d t Wb vi vb xs ga ⟨5, page, off, n, A, nb, cb, b⟩) ⟨HW1.out, HA1.out⟩ ?_
  rintro V ⟨hV, hA⟩
  have HV := Lib.hid hV
  have HA := Lib.hid hA
  clear hV hA HW1 HA1 c0 q1 qS lW lS w1
  -- Where
  obtain ⟨Ai, ci, hvi, _, hI⟩ := HV.out.wl.formI
  obtain ⟨gi, rfl, _, lgi, hci⟩ := hI (by omega)
  have hcq := hci q x HQX.out
  have q0 := HV.out.wl.c0
  have q4 := HV.out.wl.c4
  rw [hvi] at q4
  have lW := HV.out.wl.ltW
  have hqI : (q : Int) < (xs.length : Int) := by omega
  have HVI := Lib.hid hvi
  clear hI hci hvi
  obtain ⟨⟨⟨a1, a2⟩, had⟩, hwa⟩ : ∃ u, u = whA (t.pm x.id) := ⟨_, rfl⟩
  have HWA := Lib.hid hwa.symm
  have HWH := Lib.hid (show ∀ W : World, Below V.heap.size V W → Calls Try.prog 40 #[.pointer (some ⟨d.Q, 0, none⟩), .int .i64 x.id] W fun e w' => e = .returned (.tuple #[.agg #[.int .i64 a1, .int .i64 a2], .bool had]) ∧ Below W.heap.size W w' from fun W hbW => (where_any (HV.out.vw.at_.up hbW) HV.out.vw.hole (HV.out.vw.idb (CnX_at HV.out.up HXS.out))).mono (by
    rintro e w' ⟨e1, e2⟩
    rw [← hwa] at e1
    exact ⟨e1, e2⟩))
  clear hwa
  go_cut [13, 14] from 265 to 279 (fun s13 s14 W => ∃ g, s13 = .pointer (some ⟨g, 0, none⟩) ∧ s14 = .bool had ∧ WA w0 W Wb S d t True (k + 10) vi vb xs ∧ Ax w0 W d t Wb vi vb xs ga ⟨5, page, off, n, A, nb, cb, b⟩)
  case first =>
    go_region_held3 (fun w' => w'.cell? ⟨Wb, 0, none⟩ = some (.pointer (some ⟨d.Q, 0, none⟩)) ∧ w'.cell? ⟨Wb, 4, none⟩ = some (.slice (some ⟨gi, 0, none⟩) xs.length ci) ∧ w'.cell? ⟨gi, q, none⟩ = some (.int .i64 x.id))
      (first | exact KS.out | exact KS.out.alloc _ _ | exact KS.out.set (Nat.ne_of_lt lW) (Nat.ne_of_lt lW) (Nat.ne_of_lt lgi) _ _ | go_keep)
      ((go_at_call 40; (with_reducible refine (HWH.out _ (by first | exact bel_dr _ | exact bel_al _ _ _)).mono ?_); rintro e w3 ⟨rfl, hb3⟩; have HB3 := Lib.hid hb3; have KS := Lib.hid ((HV.out.up' (bel2 (by first | exact bel_dr _ | exact bel_al _ _ _) hb3)).kp3 HVI.out HQX.out); (first | (have kb := (HV.out.box0 (w' := w3) 40 hb3).1; have y0 := kb.1; have y1 := kb.2.1; have z0 := kb.2.2 0; have z1 := kb.2.2 1; have HKB := Lib.hid kb; clear kb) | skip); clear hb3))
    all_goals
      go_wp2_with fail
      go_meet
      first
        | exact ⟨_, rfl, rfl, ((HV.out.up' (bel2 (bel_dr V) HB3.out)).boxA (HA.out.up (bel2 (bel_dr V) HB3.out)) (a1, a2) 40).1, ((HV.out.up' (bel2 (bel_dr V) HB3.out)).boxA (HA.out.up (bel2 (bel_dr V) HB3.out)) (a1, a2) 40).2.1⟩
        | exact ⟨_, rfl, rfl, (((HV.out.up' (bel2 (bel_al V _ _) HB3.out)).boxB (HA.out.up (bel2 (bel_al V _ _) HB3.out)) (HV.out.box0 40 HB3.out) (by have := HA.out.lt; omega) (a1, a2))).1, (((HV.out.up' (bel2 (bel_al V _ _) HB3.out)).boxB (HA.out.up (bel2 (bel_al V _ _) HB3.out)) (HV.out.box0 40 HB3.out) (by have := HA.out.lt; omega) (a1, a2))).2.1⟩
  case rest =>
  obtain ⟨g13, rfl, rfl, hV, hA⟩ := hcut
  clear q0 q4 hcq lW lgi HV HA HWH
  have HV := Lib.hid hV
  have HA := Lib.hid hA
  clear hV hA
  obtain ⟨N, hN⟩ : ∃ N, N = t.s.L.length := ⟨_, rfl⟩
  have HN := Lib.hid hN
  rw [← hN]
  clear hN
  -- Save
  obtain ⟨q0, q4, hcq⟩ := HV.out.kp3 HVI.out HQX.out
  have lW := HV.out.wl.ltW
  have lgi := HV.out.lgi HVI.out
  have HSV := Lib.hid (show ∀ W : World, Below wc.heap.size wc W → Calls Try.prog 16 #[.pointer (some ⟨d.Q, 0, none⟩), .int .i64 x.id] W fun e w' => ∃ (t3 : PSt ShS) (c1 c2 : Int), e = .returned (.tuple #[.agg #[.int .i64 c1, .int .i64 c2], .int .i64 0]) ∧ WA w0 w' Wb S d t3 True (k + 9) vi vb xs ∧ Nx S W w' d t t3 ∧ shP.rd t3.s (c1, c2) = some x.b ∧ whA (t3.pm x.id) = ((c1, c2), true) ∧ (had = true → t3.s.L.length = N) from fun W hbW => (vw_save (k := k + 9) (HV.out.vw.up hbW) trivial (CnX_at HV.out.up HXS.out)).mono (by
    rintro e w' ⟨t3, ⟨c1, c2⟩, e1, e2, e3, _, e5, e6, ⟨y, e7, e8, e9⟩, e10⟩
    refine ⟨t3, c1, c2, e1, (HV.out.up' hbW).nx e2 e3 e5, e3, e6, ?_, fun hh => ?_⟩
    · rw [e7]; unfold whA; simp only; rw [if_pos e8, e9]
    · rw [HN.out]; exact e10 (by rw [HWA.out]; exact hh)))
  go_upto_region 26 with (fail)
  go_cut [15, 16] from 280 to 294 (fun s13 s14 W => ∃ (g : Nat) (t3 : PSt ShS) (c1 c2 : Int), s13 = .pointer (some ⟨g, 0, none⟩) ∧ s14 = .int .i64 0 ∧ WA w0 W Wb S d t3 True (k + 9) vi vb xs ∧ Ax w0 W d t3 Wb vi vb xs ga ⟨5, page, off, n, A, nb, cb, b⟩ ∧ Bx w0 W d t3 Wb vi vb xs g (c1, c2) ∧ shP.rd t3.s (c1, c2) = some x.b ∧ whA (t3.pm x.id) = ((c1, c2), true) ∧ (had = true → t3.s.L.length = N))
  case first =>
    go_region_held3 (fun w' => w'.cell? ⟨Wb, 0, none⟩ = some (.pointer (some ⟨d.Q, 0, none⟩)) ∧ w'.cell? ⟨Wb, 4, none⟩ = some (.slice (some ⟨gi, 0, none⟩) xs.length ci) ∧ w'.cell? ⟨gi, q, none⟩ = some (.int .i64 x.id))
      (first | exact KS.out | exact KS.out.alloc _ _ | exact KS.out.set (Nat.ne_of_lt lW) (Nat.ne_of_lt lW) (Nat.ne_of_lt lgi) _ _ | go_keep)
      ((go_at_call 16; (with_reducible refine (HSV.out _ (by first | exact bel_dr _ | exact bel_al _ _ _)).mono ?_); rintro e w3 ⟨t3, c1, c2, rfl, hw3, hn3, hr3⟩; have HW3 := Lib.hid hw3; have HN3 := Lib.hid hn3; have HR3 := Lib.hid hr3; have KS := Lib.hid (hw3.kp3 HVI.out HQX.out); (first | (have kb := (HV.out.box1 (w' := w3) 40 hn3).1; have y0 := kb.1; have y1 := kb.2.1; have z0 := kb.2.2 0; have z1 := kb.2.2 1; clear kb) | skip); clear hw3 hn3 hr3))
    all_goals
      go_wp2_with fail
      go_meet
      first
        | exact ⟨_, t3, c1, c2, rfl, rfl, (HW3.out.boxA ((HA.out.up (bel_dr _)).nx HN3.out) (c1, c2) 40).1, (HW3.out.boxA ((HA.out.up (bel_dr _)).nx HN3.out) (c1, c2) 40).2.1, (HW3.out.boxA ((HA.out.up (bel_dr _)).nx HN3.out) (c1, c2) 40).2.2, HR3.out⟩
        | exact ⟨_, t3, c1, c2, rfl, rfl, (HW3.out.boxB ((HA.out.up (bel_al _ _ _)).nx HN3.out) (HV.out.box1 40 HN3.out) (by have := HA.out.lt; omega) (c1, c2)).1, (HW3.out.boxB ((HA.out.up (bel_al _ _ _)).nx HN3.out) (HV.out.box1 40 HN3.out) (by have := HA.out.lt; omega) (c1, c2)).2.1, (HW3.out.boxB ((HA.out.up (bel_al _ _ _)).nx HN3.out) (HV.out.box1 40 HN3.out) (by have := HA.out.lt; omega) (c1, c2)).2.2, HR3.out⟩
  case rest =>
  obtain ⟨g15, t3, c1, c2, rfl, rfl, hV, hA, hB, hr3, hwh3, hlen⟩ := hcut
  clear q0 q4 hcq lW lgi HV HA HSV HWA
  have HV := Lib.hid hV
  have HA := Lib.hid hA
  have HB := Lib.hid hB
  have HR3 := Lib.hid hr3
  have HWA := Lib.hid hwh3
  clear hV hA hB hr3 hwh3
  -- had => no Put
  obtain ⟨Ar, cr, qS⟩ := HV.out.vw.rows
  have lS := HV.out.vw.ltS
  have q1 := HV.out.wl.c1
  have lW := HV.out.wl.ltW
  have hcase : had = false ∨ (had = true ∧ t3.s.L.length = N) := by cases had <;> simp at hlen ⊢; exact hlen
  clear hlen
  go_upto_region 27 with (fail)
  go_cut [311] from 295 to 310 (fun v W => v = .bool false ∧ W = wc)
  case first =>
    rcases hcase with rfl | ⟨rfl, hlen⟩
    · go_wp2_with fail
      go_meet
      exact ⟨rfl, rfl⟩
    · rw [hlen] at qS
      clear hlen
      go_wp2_with fail
      go_meet
      exact ⟨rfl, rfl⟩
  case rest =>
  obtain ⟨rfl, hwc⟩ := hcut
  subst hwc
  clear hcase qS lS
  -- Get
  have HG := Lib.hid (show ∀ W : World, Below wc.heap.size wc W → Calls Try.prog 41 #[.pointer (some ⟨S, 0, none⟩), .agg #[.int .i64 c1, .int .i64 c2]] W fun e w' => ∃ (t4 : PSt ShS) (A : Option Addr) (n c : Nat), e = .returned (.tuple #[.slice A n c, .int .i64 0]) ∧ WA w0 w' Wb S d t4 True (k + 9) vi vb xs ∧ Nx S W w' d t3 t4 ∧ whA (t4.pm x.id) = ((c1, c2), true) ∧ SBy w' A n x.b from fun W hbW => (vw_shGet (HV.out.vw.up hbW) HR3.out).mono (by
    rintro e w' ⟨t4, A, n, c, e1, e2, e3, e4, e5, _, _, e8, _⟩
    exact ⟨t4, A, n, c, e1, (HV.out.up' hbW).nx e2 e3 e4, e3, by rw [e5]; exact HWA.out, sl_sby' e8⟩))
  have b0 := HB.out.1.1
  have b1 := HB.out.1.2.1
  have lb := HB.out.lt
  simp only at b0 b1
  go_upto_region 29 with (fail)
  refine wp_region_up_tail 5 (by kernel_rfl) (by kernel_rfl) (by kernel_rfl) ?_
  simp only [List.take_succ_cons, List.take_zero, List.drop_succ_cons, List.drop_zero]
  repeat (go_big_quiet_step (fail))
  refine wpQuiet_nil ?_
  rintro _ ⟨g, rfl⟩
  go_wp2_with fail
  refine (HG.out _ g.h).mono ?_
  rintro e w4 ⟨t4, A4, n4, c4, rfl, hV, hn4, hwh, hS4⟩
  have HA4 := Lib.hid ((HA.out.up g.h).nx hn4)
  have HB4 := Lib.hid ((HB.out.up g.h).nx hn4)
  have HV4 := Lib.hid hV
  have HS4 := Lib.hid hS4
  have HW4 := Lib.hid hwh
  clear hV hn4 hwh hS4 b0 b1 lb q1 lW HG HA HB HV HWA HR3
  go_upto_region 30 with (fail)
  -- Where
  obtain ⟨q0, q4, hcq⟩ := HV4.out.kp3 HVI.out HQX.out
  have lW := HV4.out.wl.ltW
  have lgi := HV4.out.lgi HVI.out
  have HWH := Lib.hid (show ∀ W : World, Below w4.heap.size w4 W → Calls Try.prog 40 #[.pointer (some ⟨d.Q, 0, none⟩), .int .i64 x.id] W fun e w' => e = .returned (.tuple #[.agg #[.int .i64 c1, .int .i64 c2], .bool true]) ∧ Below W.heap.size W w' from fun W hbW => (where_any (HV4.out.vw.at_.up hbW) HV4.out.vw.hole (HV4.out.vw.idb (CnX_at HV4.out.up HXS.out))).mono (by
    rintro e w' ⟨e1, e2⟩
    rw [HW4.out] at e1
    exact ⟨e1, e2⟩))
  go_cut [19, 20] from 321 to 335 (fun s13 s14 W => ∃ g, s13 = .pointer (some ⟨g, 0, none⟩) ∧ s14 = .bool true ∧ g15 ≠ g ∧ WA w0 W Wb S d t4 True (k + 9) vi vb xs ∧ Ax w0 W d t4 Wb vi vb xs ga ⟨5, page, off, n, A, nb, cb, b⟩ ∧ Bx w0 W d t4 Wb vi vb xs g15 (c1, c2) ∧ Bx w0 W d t4 Wb vi vb xs g (c1, c2) ∧ SBy W A4 n4 x.b)
  case first =>
    go_region_held3 (fun w' => w'.cell? ⟨Wb, 0, none⟩ = some (.pointer (some ⟨d.Q, 0, none⟩)) ∧ w'.cell? ⟨Wb, 4, none⟩ = some (.slice (some ⟨gi, 0, none⟩) xs.length ci) ∧ w'.cell? ⟨gi, q, none⟩ = some (.int .i64 x.id))
      (first | exact KS.out | exact KS.out.alloc _ _ | exact KS.out.set (Nat.ne_of_lt lW) (Nat.ne_of_lt lW) (Nat.ne_of_lt lgi) _ _ | go_keep)
      ((go_at_call 40; (with_reducible refine (HWH.out _ (by first | exact bel_dr _ | exact bel_al _ _ _)).mono ?_); rintro e w3 ⟨rfl, hb3⟩; have HB3 := Lib.hid hb3; have KS := Lib.hid ((HV4.out.up' (bel2 (by first | exact bel_dr _ | exact bel_al _ _ _) hb3)).kp3 HVI.out HQX.out); (first | (have kb := (HV4.out.box0 (w' := w3) 40 hb3).1; have y0 := kb.1; have y1 := kb.2.1; have z0 := kb.2.2 0; have z1 := kb.2.2 1; clear kb) | skip); clear hb3))
    all_goals
      go_wp2_with fail
      go_meet
      first
        | exact ⟨_, rfl, rfl, whA1 HV4.out HA4.out HB4.out HS4.out HB3.out (c1, c2)⟩
        | exact ⟨_, rfl, rfl, whB1 HV4.out HA4.out HB4.out HS4.out HB3.out (c1, c2)⟩
  case rest =>
  obtain ⟨g19, rfl, rfl, hne, hV, hA, hB, hB2, hS⟩ := hcut
  clear q0 q4 hcq lW lgi HWH HA4 HB4 HV4 HS4
  have HV := Lib.hid hV
  have HA := Lib.hid hA
  have HB := Lib.hid hB
  have HB2 := Lib.hid hB2
  have HS := Lib.hid hS
  clear hV hA hB hB2 hS w4
  -- the bytes
  have b0 := HB.out.1.1
  have b1 := HB.out.1.2.1
  have lb := HB.out.lt
  have d0 := HB2.out.1.1
  have d1 := HB2.out.1.2.1
  have ld := HB2.out.lt
  simp only at b0 b1 d0 d1
  obtain ⟨A5, c5, hvb, _, hBf⟩ := HV.out.wl.formB
  obtain ⟨gb, rfl, _, lgb, hcb⟩ := hBf (by omega)
  have hcx := hcb q x HQX.out
  unfold Pe.v at hcx
  have hby := HV.out.wl.by_ x HXS.out
  rw [hby.len] at hcx
  have hcap := hby.cap
  have q5 := HV.out.wl.c5
  rw [hvb] at q5
  have lW := HV.out.wl.ltW
  have hqI : (q : Int) < (xs.length : Int) := by omega
  have HBY := Lib.hid hby
  have HVB := Lib.hid hvb
  have cv1 : ∀ g : Up wc, (convert 22 9 (.slice A4 n4 c4)).run Try.prog g.world = .ok (.string (strB x.b)) g.world := fun g => (HS.out.up g.h).str c4
  have cv2 : ∀ g : Up wc, (convert 22 9 (.slice (some ⟨x.B, 0, none⟩) d.z x.c)).run Try.prog g.world = .ok (.string (strB x.b)) g.world := fun g => (HBY.out.sby.up g.h).str x.c
  have heq : ∀ w, (Op.equalIn 10000 40 (.agg #[.int .i64 c1, .int .i64 c2]) (.agg #[.int .i64 c1, .int .i64 c2])).run Try.prog w = .ok true w := fun w => by rw [eq_addr]; simp
  clear hBf hcb hvb hby
  go_upto_region 31 with (fail)
  refine wp_region_up (by kernel_rfl) (by kernel_rfl) ?_
  repeat (go_big_quiet_step (fail))
  refine wpQuiet_nil ?_
  rintro _ ⟨g, rfl⟩
  have HV5 := Lib.hid (HV.out.up' g.h)
  have HA5 := Lib.hid (HA.out.up g.h)
  have HB5 := Lib.hid (HB2.out.up g.h)
  clear b0 b1 lb d0 d1 ld hcx q5 lW lgb cv1 cv2 heq HB HB2 HS HV HA
  generalize g.world = w5 at *
  have c0 := HA5.out.1.c0
  have c2 := HA5.out.1.c2
  have c3 := HA5.out.1.c3
  simp only at c0 c2 c3
  have HR := Lib.hid (wread_any (k := k) (HV5.out.less (by omega)) trivial HQX.out off n HBN.out.1 HBN.out.2)
  go_wp2_with fail
  refine HR.out.mono ?_
  rintro e w6 ⟨rfl, t6, hw6⟩
  have HW6 := Lib.hid hw6
  clear hw6 HR c0 c2 c3
  go_wp2
  go_ret
  exact ⟨rfl, t6, vi, vb, xs, HW6.out, Nat.le_succ _⟩
end
end Go.Proofs.Ytmipngefpedfpaa
