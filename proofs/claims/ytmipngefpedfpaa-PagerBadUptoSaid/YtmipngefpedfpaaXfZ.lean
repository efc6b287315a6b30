/- step of the world of almanaclaw14: Make. -/
import Derived.Test.YtmipngefpedfpaaXeZ
namespace Go.Proofs.Ytmipngefpedfpaa
open Go.RowKit Go.Maps
set_option linter.unusedVariables false
set_option linter.unusedSimpArgs false

section
variable {w0 w w' w1 w2 : World} {Wb S : Nat} {d : PD} {t t' t1 t2 : PSt ShS} {R : Prop} {k k1 : Nat} {vi vb : Value} {xs : List Pe} {is : List Int} {C : Cn}
/-- A page has been made: the law's words are as they were. -/
structure MkS (w0 W w' : World) (Wb S : Nat) (d : PD) (t t' : PSt ShS) (R : Prop) (k : Nat) (vi vb : Value) (xs : List Pe) (b : Bytes) : Prop where
  vw : Vw S w0 w' d t' (updC (CnX xs) t.nx (some (some b))) R k
  wl : WL w0 w' Wb S d t' vi vb (xs.map Pe.id) xs
  nx : Nx S W w' d t t'
  cm : t'.cm = xs.length + 1
theorem mk_make (h : WA w0 w Wb S d t R (k + 1) vi vb xs) : Calls Try.prog 11 #[.pointer (some ⟨d.Q, 0, none⟩)] w fun e w' => e = .returned (.int .i64 (t.nx : Nat)) ∧ ∃ t', MkS w0 w w' Wb S d t t' R k vi vb xs (zeros d.z) := by
  refine (vw_make h.vw).mono ?_
  rintro e w' ⟨rfl, t', hv, hn, hx, hc, _⟩
  exact ⟨rfl, t', hv, h.wl.nx hn, hn, by rw [hc, h.cm]⟩
theorem mk_more {b : Bytes} (h : WA w0 w Wb S d t R k1 vi vb xs) {W V : World} (hm : MkS w0 W V Wb S d t t' R k vi vb xs b) (hbW : Below w.heap.size w W) (hf : xs.length < 999) {V' : World} (hV : Below V.heap.size V V') {g c : Nat} (hg : w.heap.size ≤ g) (hS : SBy V' (some ⟨g, 0, none⟩) d.z b) :
    Calls Try.prog 39 #[.pointer (some ⟨Wb, 0, none⟩), .int .i64 (t.nx : Nat), .slice (some ⟨g, 0, none⟩) d.z c] V' fun e w' => e = .returned (.bool true) ∧ StPost w0 Wb S d R k xs.length (.returned (.bool true)) w' := by
  refine (more_any (hm.vw.up hV) (hm.wl.up hV) h.up (fun x hx => (h.ids hx).2.1) hm.cm (by omega) hS rfl (fun b' o n c e hn => ?_)).mono ?_
  · cases e
    refine ⟨fun e2 => ?_, fun e2 => ?_⟩
    · have := h.wl.ltW; omega
    · have := h.wl.lt (.inr (.inl e2)); omega
  · rintro e w' ⟨rfl, vi', vb', B, c, hw⟩
    exact ⟨rfl, rfl, t', vi', vb', _, hw, by simp⟩
set_option maxRecDepth 100000 in
set_option maxHeartbeats 8000000 in
theorem st_make (h : WA w0 w Wb S d t True (k + 5000) vi vb xs) {a : Ac} (ha : a.In w) (hop : a.op = 1 ∨ (xs = [] ∧ a.op ≠ 1 ∧ a.op ≠ 7 ∧ a.op ≠ 6)) (hf : xs.length < 999) :
    Calls Try.prog 18 #[.pointer (some ⟨Wb, 0, none⟩), .agg a.cells] w (StPost w0 Wb S d True k xs.length) := by
  obtain ⟨op, page, off, n, A, nb, cb, b⟩ := a
  have hb0 : Below w.heap.size w (w.alloc (.cells (Ac.cells ⟨op, page, off, n, A, nb, cb, b⟩) 54)) := (Below.refl _ _).alloc (Nat.le_refl _) _
  have HWC := Lib.hid (which_any (h.wl.up hb0) ⟨op, page, off, n, A, nb, cb, b⟩)
  have HAB := Lib.hid (AcB.new w ⟨op, page, off, n, A, nb, cb, b⟩ 54)
  have HW0 := Lib.hid (h.up' hb0)
  have HOP := Lib.hid hop
  obtain ⟨hz1, hz2⟩ := h.wl.z16
  clear h ha hb0 hop
  unfold Ac.cells at *
  simp only at HWC HAB HW0 ⊢
  go_enter Try.func18, Try.ntmps18
  go_wp2_with fail
  refine HWC.out.mono ?_
  rintro e w1 ⟨hb, hq⟩
  have HW1 := Lib.hid (HW0.out.up' hb)
  have hab := HAB.out.up hb
  have c0 := hab.c0
  simp only at c0
  have hcase : (∃ ki : Int, e = .returned (.int .i64 ki) ∧ op = 1) ∨ (e = .returned (.int .i64 (-1)) ∧ (op == 1) = false ∧ (op != 7) = true ∧ (op != 6) = true) := by
    rcases HOP.out with e1 | ⟨e1, e2, e3, e4⟩
    · rcases hq with ⟨_, rfl⟩ | ⟨q, _, rfl⟩
      · exact .inl ⟨_, rfl, e1⟩
      · exact .inl ⟨_, rfl, e1⟩
    · rcases hq with ⟨_, rfl⟩ | ⟨q, hq, rfl⟩
      · exact .inr ⟨rfl, by simpa using e2, by simpa using e3, by simpa using e4⟩
      · rw [e1] at hq; simp at hq
  clear hb hab hq HWC HAB HW0 HOP
  rcases hcase with ⟨ki, rfl, rfl⟩ | ⟨rfl, o1, o7, o6⟩
  all_goals
    go_upto_region 3 with (fail)
    have HMK := Lib.hid (fun (W : World) (hbW : Below w1.heap.size w1 W) => mk_make (k := k) ((HW1.out.up' hbW).less (by omega)))
    have q0 := HW1.out.wl.c0
    have q2 := HW1.out.wl.c2
    have lW := HW1.out.wl.ltW
    have hmk := fun (W : World) => run_make_bytes d.z (by omega) W
    clear c0
    have HZM : Hid (∀ W : World, SBy (W.alloc (.cells (madeCells #[.int .u8 0] d.z) 5)) (some ⟨W.heap.size, 0, none⟩) d.z (zeros d.z)) := Lib.hid fun W => (FrB.zmade W d.z (by omega)).sby
    go_region_law (first
      | (go_simp; go_at_call 11; refine (HMK.out _ (by go_grown)).mono ?_; rintro e w5 ⟨rfl, t5, hm5⟩; have HM5 := Lib.hid hm5; have q25 := hm5.wl.c2; have lW5 := hm5.wl.ltW; clear hm5)
      | (go_simp; go_at_call 39; refine (mk_more HW1.out HM5.out (by go_grown) hf (by go_grown) (by first | exact Nat.le_refl _ | (have := HM5.out.nx.off.size; simp at this ⊢; omega)) (by first | exact HZM.out _ | (refine SBy.off (SBy.drew (HZM.out _)) HM5.out.nx.off (fun k o e hb => ?_); cases e; have := HW1.out.vw.lt hb; omega) | (refine SBy.off (HZM.out _) HM5.out.nx.off (fun k o e hb => ?_); cases e; have := HW1.out.vw.lt hb; simp at this; omega))).mono ?_; rintro e w6 ⟨rfl, hq6⟩; have HQ6 := Lib.hid hq6; clear hq6))
    all_goals
      go_wp2
      go_ret
      exact HQ6.out
end
end Go.Proofs.Ytmipngefpedfpaa
