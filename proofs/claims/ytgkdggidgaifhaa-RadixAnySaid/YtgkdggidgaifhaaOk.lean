/- radix: Set and Delete. -/
import Derived.Test.YtgkdggidgaifhaaOh
namespace Go.Proofs.Ytgkdggidgaifhaa
open Go.RowKit
set_option linter.unusedVariables false
set_option linter.unusedSimpArgs false

def outY {σ : Type} (y : (σ × Int) × (Int × Int) × Int) : (σ × Int) × (Int × Int) × Int := (y.1, if y.2.2 = 0 then y.2.1 else (0, 0), y.2.2)
section
variable {σ : Type} {K : SnkF σ} {M : Snk K} {w : World} {T : Nat} {O : Nat → Prop} {s : σ} {p : Int}
/-- Delete of a key that is none. -/
theorem delete_bad (h : TrAt M w T O s p) (r : Int × Int) {key : Int} (hk : ¬ (0 ≤ key ∧ key < 16777216)) :
    Calls Try.prog 24 #[.pointer (some ⟨T, 0, none⟩), addrV r, .int .i64 key] w (TrPost M w T O ((s, p), (0, 0), 1)) := by
  obtain ⟨ra, rb⟩ := r
  have H := Lib.hid h
  clear h
  have hrt : decide (0 ≤ key ∧ key < 16777216) = false := by simp; omega
  unfold addrV
  go_enter Try.func24, Try.ntmps24
  go_upto_region 1 with (fail)
  refine wp_forget (fun W => Below w.heap.size w W ∧ BoxA W w.heap.size (ra, rb) ∧ BoxA W (w.heap.size + 1) (0, 0)) (two_boxes w (ra, rb) _ _) ?_
  rintro W0 ⟨hb0, hB7, hB12⟩
  have HB12 := Lib.hid hB12
  have c0 := hB12.1
  have c1 := hB12.2.1
  have f0 := hB12.2.2 0
  have f1 := hB12.2.2 1
  have l12 := hB12.lt
  have TV := Lib.hid ((TrIs.refl H.out).up hb0)
  have HO := Lib.hid (H.out.outOf (g := w.heap.size + 1) (by omega))
  clear hb0 hB7 hB12
  go_wp2_with (go_at_call 35; refine (right_any _ _).mono ?_; rintro e w1 ⟨rfl, rfl⟩; rw [hrt])
  have hfin := TrIs.ret (y := ((s, p), (0, 0), 1)) TV.out HB12.out HO.out (by omega)
  refine bodyPost_ret (results_addr rfl _ _ _ _ _ rfl hfin.1 hfin.2.1) rfl ?_
  exact hfin.2.2
set_option maxRecDepth 100000 in
/-- Delete of a key. -/
theorem delete_any (hK : K.Good) (h : TrAt M w T O s p) (hr : K.Rdy s 7) (r : Int × Int) {key : Nat} (hk : key < 16777216) :
    Calls Try.prog 24 #[.pointer (some ⟨T, 0, none⟩), addrV r, .int .i64 (key : Nat)] w (TrPost M w T O (outY (cutF K 7 (s, p) r 0 0 key))) := by
  obtain ⟨ra, rb⟩ := r
  have H := Lib.hid h
  clear h
  have hrt : decide (0 ≤ (key : Int) ∧ (key : Int) < 16777216) = true := by simp; omega
  unfold addrV
  go_enter Try.func24, Try.ntmps24
  go_upto_region 1 with (fail)
  refine wp_forget (fun W => Below w.heap.size w W ∧ BoxA W w.heap.size (ra, rb) ∧ BoxA W (w.heap.size + 1) (0, 0)) (two_boxes w (ra, rb) _ _) ?_
  rintro W0 ⟨hb0, hB7, hB12⟩
  have HB12 := Lib.hid hB12
  have c0 := hB7.1
  have c1 := hB7.2.1
  have l7 := hB7.lt
  have TV := Lib.hid ((TrIs.refl H.out).up hb0)
  have HO := Lib.hid (H.out.outOf (g := w.heap.size + 1) (by omega))
  have HCT := Lib.hid (cut_any hK hk 7 W0 s p O (ra, rb) 0 0 (by omega) (by omega) (by omega) TV.out.tr hr)
  unfold addrV at HCT
  simp only at c0 c1
  generalize cutF K 7 (s, p) (ra, rb) 0 0 key = y at *
  clear hb0 hB7 hB12
  go_upto_region 3 with (go_at_call 35; refine (right_any _ _).mono ?_; rintro e w1 ⟨rfl, rfl⟩; rw [hrt])
  go_wp2_with fail
  refine HCT.out.mono ?_
  rintro e V hp
  obtain ⟨O9, he, hti⟩ := hp.is
  obtain ⟨st', ⟨a0, a1⟩, er⟩ := y
  unfold addrV at he
  subst he
  have HTI := Lib.hid (TV.out.trans hti)
  have HBX := Lib.hid (hti.box HO.out HB12.out)
  have HBO := Lib.hid (hti.out HO.out HB12.out.lt)
  clear hp hti HCT c0 c1
  go_upto_region 4 with (fail)
  refine wp_forget (fun W => BoxA W V.heap.size (a0, a1) ∧ BoxA W (w.heap.size + 1) (0, 0) ∧ TrIs M w T O O9 st' W) ?_ ?_
  · have hbl : Below V.heap.size V (V.alloc (.cells #[.int .i64 a0, .int .i64 a1] 30)) := (Below.refl _ _).alloc (Nat.le_refl _) _
    exact ⟨BoxA.new _ _ (a0, a1), HBX.out.off (S := fun _ => False) (Off.of_below hbl) id, HTI.out.up hbl⟩
  rintro W2 ⟨hx1, hx2, hti⟩
  have HT2 := Lib.hid hti
  have HX2 := Lib.hid hx2
  have b0 := hx1.1
  have b1 := hx1.2.1
  have lb := hx1.lt
  have c0 := hx2.1
  have c1 := hx2.2.1
  have f0 := hx2.2.2 0
  have f1 := hx2.2.2 1
  have l12 := hx2.lt
  simp only at b0 b1
  clear hx1 hx2 hti HTI HBX
  by_cases he0 : er = 0
  · subst he0
    go_wp2
    have hfin := TrIs.ret (y := (st', (a0, a1), 0)) HT2.out HX2.out HBO.out (by omega)
    refine bodyPost_ret (results_addr rfl _ _ _ _ _ rfl hfin.1 hfin.2.1) rfl ?_
    exact hfin.2.2
  · have HE := Lib.hid (show outY (st', (a0, a1), er) = (st', (0, 0), er) by unfold outY; simp only [he0, if_false])
    have hb : (er != 0) = true := by simp [he0]
    clear he0
    go_wp2
    have hfin := TrIs.ret (y := (st', (0, 0), er)) HT2.out HX2.out HBO.out (by omega)
    refine bodyPost_ret (results_addr rfl _ _ _ _ _ rfl hfin.1 hfin.2.1) rfl ?_
    rw [HE.out]
    exact hfin.2.2
set_option maxRecDepth 100000 in
/-- Set of a key that is none, of a value that is too long. -/
theorem set1_bad (h : TrAt M w T O s p) (r : Int × Int) {key : Int} {v : Value} {A : Option Addr} {n c : Nat} (hv : v = .slice A n c) {er : Int} (hk : (¬ (0 ≤ key ∧ key < 16777216) ∧ er = 1) ∨ ((0 ≤ key ∧ key < 16777216) ∧ 256 < n ∧ er = 24)) :
    Calls Try.prog 22 #[.pointer (some ⟨T, 0, none⟩), addrV r, .int .i64 key, v] w (TrPost M w T O ((s, p), (0, 0), er)) := by
  obtain ⟨ra, rb⟩ := r
  subst hv
  have H := Lib.hid h
  clear h
  rcases hk with ⟨hk, rfl⟩ | ⟨hk, hn, rfl⟩
  · have hrt : decide (0 ≤ key ∧ key < 16777216) = false := by simp; omega
    unfold addrV
    go_enter Try.func22, Try.ntmps22
    go_upto_region 1 with (fail)
    refine wp_forget (fun W => Below w.heap.size w W ∧ BoxA W w.heap.size (ra, rb) ∧ BoxA W (w.heap.size + 1) (0, 0)) (two_boxes w (ra, rb) _ _) ?_
    rintro W0 ⟨hb0, hB7, hB12⟩
    have HB12 := Lib.hid hB12
    have c0 := hB12.1
    have c1 := hB12.2.1
    have f0 := hB12.2.2 0
    have f1 := hB12.2.2 1
    have l12 := hB12.lt
    have TV := Lib.hid ((TrIs.refl H.out).up hb0)
    have HO := Lib.hid (H.out.outOf (g := w.heap.size + 1) (by omega))
    clear hb0 hB7 hB12
    go_wp2_with (go_at_call 35; refine (right_any _ _).mono ?_; rintro e w1 ⟨rfl, rfl⟩; rw [hrt])
    have hfin := TrIs.ret (y := ((s, p), (0, 0), 1)) TV.out HB12.out HO.out (by omega)
    refine bodyPost_ret (results_addr rfl _ _ _ _ _ rfl hfin.1 hfin.2.1) rfl ?_
    exact hfin.2.2
  · have hrt : decide (0 ≤ key ∧ key < 16777216) = true := by simp; omega
    unfold addrV
    go_enter Try.func22, Try.ntmps22
    go_upto_region 1 with (fail)
    refine wp_forget (fun W => Below w.heap.size w W ∧ BoxA W w.heap.size (ra, rb) ∧ BoxA W (w.heap.size + 1) (0, 0)) (two_boxes w (ra, rb) _ _) ?_
    rintro W0 ⟨hb0, hB7, hB12⟩
    have HB12 := Lib.hid hB12
    have c0 := hB12.1
    have c1 := hB12.2.1
    have f0 := hB12.2.2 0
    have f1 := hB12.2.2 1
    have l12 := hB12.lt
    have TV := Lib.hid ((TrIs.refl H.out).up hb0)
    have HO := Lib.hid (H.out.outOf (g := w.heap.size + 1) (by omega))
    have hni : (256 : Int) < (n : Int) := by omega
    clear hb0 hB7 hB12
    go_wp2_with (go_at_call 35; refine (right_any _ _).mono ?_; rintro e w1 ⟨rfl, rfl⟩; rw [hrt])
    have hfin := TrIs.ret (y := ((s, p), (0, 0), 24)) TV.out HB12.out HO.out (by omega)
    refine bodyPost_ret (results_addr rfl _ _ _ _ _ rfl hfin.1 hfin.2.1) rfl ?_
    exact hfin.2.2
set_option maxRecDepth 100000 in
/-- Set. -/
theorem set1_any (hK : K.Good) (h : TrAt M w T O s p) (hr : K.Rdy s 7) (r : Int × Int) {key : Nat} (hk : key < 16777216) {v : Value} {L : Bytes} (hv : SlB w v L) (hL : L.length ≤ 256) (hvo : VIn (Out O T) v) :
    Calls Try.prog 22 #[.pointer (some ⟨T, 0, none⟩), addrV r, .int .i64 (key : Nat), v] w (TrPost M w T O (outY (setF K 7 (s, p) r 0 0 key L))) := by
  obtain ⟨ra, rb⟩ := r
  obtain ⟨Av, nv, cv, rfl, hcv, hsv⟩ := hv
  have hv : SlB w (.slice Av nv cv) L := ⟨Av, nv, cv, rfl, hcv, hsv⟩
  have H := Lib.hid h
  have HV := Lib.hid hv
  have HVO := Lib.hid hvo
  have hni : decide ((256 : Int) < (nv : Int)) = false := decide_eq_false (by have := hsv.1; omega)
  clear h hv hvo hsv hcv
  have hrt : decide (0 ≤ (key : Int) ∧ (key : Int) < 16777216) = true := by simp; omega
  unfold addrV
  go_enter Try.func22, Try.ntmps22
  go_upto_region 1 with (fail)
  refine wp_forget (fun W => Below w.heap.size w W ∧ BoxA W w.heap.size (ra, rb) ∧ BoxA W (w.heap.size + 1) (0, 0)) (two_boxes w (ra, rb) _ _) ?_
  rintro W0 ⟨hb0, hB7, hB12⟩
  have HB12 := Lib.hid hB12
  have c0 := hB7.1
  have c1 := hB7.2.1
  have l7 := hB7.lt
  have TV := Lib.hid ((TrIs.refl H.out).up hb0)
  have HO := Lib.hid (H.out.outOf (g := w.heap.size + 1) (by omega))
  have HCT := Lib.hid (set_any hK hk hL 7 W0 s p O (ra, rb) 0 0 (by omega) (by omega) (by omega) TV.out.tr hr (HV.out.up hb0) HVO.out)
  unfold addrV at HCT
  simp only at c0 c1
  obtain ⟨y, hy⟩ : ∃ y, setF K 7 (s, p) (ra, rb) 0 0 key L = y := ⟨_, rfl⟩
  rw [hy] at HCT
  have HY := Lib.hid hy
  clear hy hL HV HVO
  clear hb0 hB7 hB12
  go_upto_region 3 with (go_at_call 35; refine (right_any _ _).mono ?_; rintro e w1 ⟨rfl, rfl⟩; rw [hrt])
  go_wp2_with fail
  refine HCT.out.mono ?_
  rintro e V hp
  obtain ⟨O9, he, hti⟩ := hp.is
  obtain ⟨st', ⟨a0, a1⟩, er⟩ := y
  unfold addrV at he
  subst he
  have HTI := Lib.hid (TV.out.trans hti)
  have HBX := Lib.hid (hti.box HO.out HB12.out)
  have HBO := Lib.hid (hti.out HO.out HB12.out.lt)
  clear hp hti HCT c0 c1
  go_upto_region 6 with (fail)
  refine wp_forget (fun W => BoxA W V.heap.size (a0, a1) ∧ BoxA W (w.heap.size + 1) (0, 0) ∧ TrIs M w T O O9 st' W) ?_ ?_
  · have hbl : Below V.heap.size V (V.alloc (.cells #[.int .i64 a0, .int .i64 a1] 30)) := (Below.refl _ _).alloc (Nat.le_refl _) _
    exact ⟨BoxA.new _ _ (a0, a1), HBX.out.off (S := fun _ => False) (Off.of_below hbl) id, HTI.out.up hbl⟩
  rintro W2 ⟨hx1, hx2, hti⟩
  have HT2 := Lib.hid hti
  have HX2 := Lib.hid hx2
  have b0 := hx1.1
  have b1 := hx1.2.1
  have lb := hx1.lt
  have c0 := hx2.1
  have c1 := hx2.2.1
  have f0 := hx2.2.2 0
  have f1 := hx2.2.2 1
  have l12 := hx2.lt
  simp only at b0 b1
  clear hx1 hx2 hti HTI HBX
  by_cases he0 : er = 0
  · subst he0
    go_wp2
    have hfin := TrIs.ret (y := (st', (a0, a1), 0)) HT2.out HX2.out HBO.out (by omega)
    refine bodyPost_ret (results_addr rfl _ _ _ _ _ rfl hfin.1 hfin.2.1) rfl ?_
    rw [HY.out]
    exact hfin.2.2
  · have HE := Lib.hid (show outY (st', (a0, a1), er) = (st', (0, 0), er) by unfold outY; simp only [he0, if_false])
    have hb : (er != 0) = true := by simp [he0]
    clear he0
    go_wp2
    have hfin := TrIs.ret (y := (st', (0, 0), er)) HT2.out HX2.out HBO.out (by omega)
    refine bodyPost_ret (results_addr rfl _ _ _ _ _ rfl hfin.1 hfin.2.1) rfl ?_
    rw [HY.out, HE.out]
    exact hfin.2.2
end
end Go.Proofs.Ytgkdggidgaifhaa
