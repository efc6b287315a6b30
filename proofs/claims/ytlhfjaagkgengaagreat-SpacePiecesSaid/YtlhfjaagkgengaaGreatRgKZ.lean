/- region: Right, Find. -/
import Derived.Test.YtlhfjaagkgengaaGreatRgJZ
namespace Go.Proofs.YtlhfjaagkgengaaGreat
open Go.RowKit
set_option linter.unusedVariables false
set_option linter.unusedSimpArgs false
def findB (L : List Rg) (page : Int) : Bool := L.any fun r => decide (r.lo ≤ page ∧ page < r.hi)
theorem results_rb {fn : Func} {p u : Tmp} (h : fn.results = #[.cell p 62, .tmp u]) (tmps : Array Value) (w : World) (g : Nat) (x y z : Int) (hp : tmps.getD p undef = .pointer (some ⟨g, 0, none⟩)) (h0 : Rg3 w g x y z) :
    (results fn tmps).run Tryz.prog w = .ok (.tuple #[.agg #[.int .i64 x, .int .i64 y, .int .i64 z], tmps.getD u undef]) w := by
  obtain ⟨c0, c1, c2⟩ := h0
  have l1 : (loadVar 62 ⟨g, 0, none⟩).run Tryz.prog w = .ok (.agg #[.int .i64 x, .int .i64 y, .int .i64 z]) w := by simp [go_sem, c0, c1, c2]
  have hp2 : tmps[p]?.getD undef = .pointer (some ⟨g, 0, none⟩) := by rw [← hp]; simp [Array.getD_eq_getD_getElem?]
  simp [results, h, hp2, asAddr, l1, Result.andThen, Array.getD_eq_getD_getElem?]
structure FndAt (b : Nat) (w : World) : Prop where
  c : ∃ x y z, Rg3 w b x y z
  f : ∀ k, w.frozen? ⟨b, k, none⟩ = false
theorem FndAt.off {b : Nat} {w w' : World} {S : Nat → Prop} (h : FndAt b w) (ho : Off S w w') (hs : ¬ S b) : FndAt b w' := by
  obtain ⟨⟨x, y, z, hr⟩, hf⟩ := h
  exact ⟨⟨x, y, z, hr.off ho hs⟩, fun k => (ho.frozen (p := ⟨b, k, none⟩) (lt_of_cell hr.c0) hs).trans (hf k)⟩
theorem FndAt.new (w : World) (x y z : Int) (t : TypeId) : FndAt w.heap.size (w.alloc (.cells #[.int .i64 x, .int .i64 y, .int .i64 z] t)) := ⟨⟨x, y, z, Rg3.new w x y z t⟩, fun k => by
  unfold World.frozen?
  rw [heap_alloc_new]
  simp⟩
theorem Rg3.set {w : World} {g : Nat} {a b c : Int} (h : Rg3 w g a b c) (x y z : Int) :
    Rg3 (((w.setCell ⟨g, 0, none⟩ (.int .i64 x)).setCell ⟨g, 1, none⟩ (.int .i64 y)).setCell ⟨g, 2, none⟩ (.int .i64 z)) g x y z ∧ Off (· = g) w (((w.setCell ⟨g, 0, none⟩ (.int .i64 x)).setCell ⟨g, 1, none⟩ (.int .i64 y)).setCell ⟨g, 2, none⟩ (.int .i64 z)) := by
  have ne : ∀ a b : Nat, a ≠ b → (⟨g, a, none⟩ : Addr) ≠ ⟨g, b, none⟩ := fun a b h e => by injection e with _ e; exact h e
  refine ⟨⟨?_, ?_, ?_⟩, (((Off.refl (· = g) w).setCell (p := ⟨g, 0, none⟩) rfl _).setCell (p := ⟨g, 1, none⟩) rfl _).setCell (p := ⟨g, 2, none⟩) rfl _⟩
  · rw [World.cell?_setCell_other _ _ _ _ (ne _ _ (by omega)), World.cell?_setCell_other _ _ _ _ (ne _ _ (by omega))]
    exact World.cell?_setCell_same _ _ _ h.c0
  · rw [World.cell?_setCell_other _ _ _ _ (ne _ _ (by omega))]
    exact World.cell?_setCell_same _ _ _ ((World.cell?_setCell_other _ _ _ _ (ne _ _ (by omega))).trans h.c1)
  · exact World.cell?_setCell_same _ _ _ ((World.cell?_setCell_other _ _ _ _ (ne _ _ (by omega))).trans ((World.cell?_setCell_other _ _ _ _ (ne _ _ (by omega))).trans h.c2))
theorem any_take {α : Type} (L : List α) (p : α → Bool) {j : Nat} {r : α} (hr : L[j]? = some r) (hp : p r = true) : L.any p = true := by
  rw [List.any_eq_true]
  exact ⟨r, List.mem_of_getElem? hr, hp⟩
theorem any_none {α : Type} (L : List α) (p : α → Bool) (h : ∀ (i : Nat) (x : α), L[i]? = some x → p x = false) : L.any p = false := by
  rw [List.any_eq_false]
  intro x hx
  obtain ⟨i, hi⟩ := List.mem_iff_getElem?.1 hx
  simp [h i x hi]
set_option maxRecDepth 100000 in
set_option maxHeartbeats 4000000 in
theorem findG_any (w : World) {A : Option Addr} (c : Nat) {L : List Rg} (hL : RgAt w A L) (hn : L.length ≤ 100000) (page : Int) :
    Calls Tryz.prog 120 #[.slice A L.length c, .int .i64 page] w fun e w' => (∃ x y z, e = .returned (.tuple #[.agg #[.int .i64 x, .int .i64 y, .int .i64 z], .bool (findB L page)])) ∧ Below w.heap.size w w' := by
  have HL := Lib.hid hL
  obtain ⟨R, hR⟩ : ∃ R, findB L page = R := ⟨_, rfl⟩
  rw [hR]
  have HR := Lib.hid hR
  unfold findB at HR
  clear hL hR
  go_enter Tryz.func120, Tryz.ntmps120
  go_upto_region 1 with (fail)
  refine wp_forget (fun W => Below w.heap.size w W ∧ FndAt w.heap.size W) ⟨(Below.refl _ _).alloc (Nat.le_refl _) _, FndAt.new w 0 0 0 62⟩ ?_
  rintro W0 ⟨hb0, hf0⟩
  obtain ⟨g4, hg4⟩ : ∃ g, w.heap.size = g := ⟨_, rfl⟩
  rw [hg4] at hf0
  rw [hg4]
  have HG := Lib.hid hg4
  have HB0 := Lib.hid hb0
  have HF0 := Lib.hid hf0
  clear hb0 hf0 hg4
  go_wp2
  go_loopw [10, 7] (fun i b7 wr => ∃ (j : Nat), j ≤ L.length ∧ i = .int .i64 (j : Nat) ∧ Below w.heap.size w wr ∧ FndAt g4 wr ∧ ∀ i x, i < j → L[i]? = some x → decide (x.lo ≤ page ∧ page < x.hi) = false) (fun i _ _ => L.length - (intOf i).toNat)
  case atStart => exact ⟨0, by omega, rfl, HB0.out, HF0.out, fun i x h => by omega⟩
  case round =>
    obtain ⟨j, hj, rfl, hb, hf, hno⟩ := hrel
    have HB := Lib.hid hb
    have HF := Lib.hid hf
    have HNO := Lib.hid hno
    by_cases hjn : j < L.length
    · have hrow := HL.out.up hb
      obtain ⟨g, o, hA, hg, hc⟩ := hrow.at_ (by omega)
      obtain ⟨r, hr⟩ : ∃ r, L[j]? = some r := ⟨_, List.getElem?_eq_getElem hjn⟩
      obtain ⟨q0, q1, q2⟩ := hc j r hr
      have hjI : (j : Int) < (L.length : Int) := by omega
      obtain ⟨ra, rb, rp⟩ := r
      simp only at q0 q1 q2
      rw [hA]
      have HRJ := Lib.hid hr
      clear hb hf hno hc hrow hr
      go_upto_region 4 with (fail)
      refine wp_forget (fun V => Below wr.heap.size wr V ∧ Rg3 V wr.heap.size ra rb rp ∧ FndAt g4 V) ⟨(Below.refl _ _).alloc (Nat.le_refl _) _, Rg3.new wr ra rb rp 62, HF.out.off (S := fun _ => False) (Off.of_below ((Below.refl _ _).alloc (Nat.le_refl _) _)) id⟩ ?_
      rintro V ⟨hbv, k7, hfv⟩
      obtain ⟨g7, hg7⟩ : ∃ g, wr.heap.size = g := ⟨_, rfl⟩
      rw [hg7] at k7
      rw [hg7]
      have hbw := HB.out.trans (hbv.mono HB.out.size)
      have HBV := Lib.hid hbw
      have HFV := Lib.hid hfv
      obtain ⟨x0, x1, x2⟩ := k7
      have lx := lt_of_cell x0
      clear hbv hfv hbw q0 q1 q2 hg7 HB HF
      by_cases h1 : ra ≤ page
      · by_cases h2 : page < rb
        · obtain ⟨⟨y0, y1, y2, hy⟩, hfz⟩ := HFV.out
          obtain ⟨c0, c1, c2⟩ := hy
          have ly := lt_of_cell c0
          have z0 := hfz 0
          have z1 := hfz 1
          have z2 := hfz 2
          clear hfz
          have HS := Lib.hid ((Rg3.mk c0 c1 c2).set ra rb rp)
          have hR : Hid (R = true) := Lib.hid (by rw [← HR.out]; exact any_take L _ HRJ.out (decide_eq_true ⟨h1, h2⟩))
          go_wp2
          (try simp only [Exit.inBlock, Exit.then]); refine bodyPost_ret (results_rb rfl _ _ g4 ra rb rp rfl HS.out.1) rfl ?_
          exact ⟨⟨_, _, _, by rw [hR.out]; rfl⟩, HBV.out.trans (HS.out.2.below (fun k e => by rw [e, HG.out]; exact Nat.le_refl _) HBV.out.size)⟩
        · have hd2 : decide (page < rb) = false := decide_eq_false h2
          go_wp2
          go_roundw
          case rel => exact ⟨j + 1, by omega, by go_num, HBV.out, HFV.out, fun i x hi hx => by
            by_cases e : i = j
            · subst e; have := HRJ.out.symm.trans hx; cases this; exact decide_eq_false (fun h => h2 h.2)
            · exact HNO.out i x (by omega) hx⟩
          case measure => simp [intOf]; omega
      · have hd1 : decide (ra ≤ page) = false := decide_eq_false h1
        go_wp2
        go_roundw
        case rel => exact ⟨j + 1, by omega, by go_num, HBV.out, HFV.out, fun i x hi hx => by
          by_cases e : i = j
          · subst e; have := HRJ.out.symm.trans hx; cases this; exact decide_eq_false (fun h => h1 h.1)
          · exact HNO.out i x (by omega) hx⟩
        case measure => simp [intOf]; omega
    · obtain rfl : j = L.length := by omega
      have hjj : ¬ (L.length : Int) < (L.length : Int) := by omega
      obtain ⟨⟨y0, y1, y2, hy⟩, hfz⟩ := HF.out
      obtain ⟨c0, c1, c2⟩ := hy
      have ly := lt_of_cell c0
      have z0 := hfz 0
      have z1 := hfz 1
      have z2 := hfz 2
      clear hfz hb hf hno hjn
      have HS := Lib.hid ((Rg3.mk c0 c1 c2).set 0 0 0)
      have hR : Hid (R = false) := Lib.hid (by rw [← HR.out]; exact any_none L _ (fun i x hx => HNO.out i x (List.getElem?_eq_some_iff.1 hx).1 hx))
      go_wp2
      (try simp only [Exit.inBlock, Exit.then]); refine bodyPost_ret (results_rb rfl _ _ g4 0 0 0 rfl HS.out.1) rfl ?_
      exact ⟨⟨_, _, _, by rw [hR.out]; rfl⟩, HB.out.trans (HS.out.2.below (fun k e => by rw [e, HG.out]; exact Nat.le_refl _) HB.out.size)⟩
end Go.Proofs.YtlhfjaagkgengaaGreat
