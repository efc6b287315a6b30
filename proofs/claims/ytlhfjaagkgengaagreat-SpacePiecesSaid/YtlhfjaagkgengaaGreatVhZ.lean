/- A space: Shaped; which pages are not there. -/
import Derived.Test.YtlhfjaagkgengaaGreatVgZ
namespace Go.Proofs.YtlhfjaagkgengaaGreat
open Go.RowKit Go.Maps
set_option linter.unusedVariables false
set_option linter.unusedSimpArgs false
/-- May slots be a space's? -/
def slotB (L : List Rg) (l : List (Int × Int)) (i : Nat) : Bool :=
  match l[i]? with
  | none => true
  | some x => findB L x.1 && (match i with
    | 0 => true
    | j + 1 => match l[j]? with
      | none => true
      | some y => decide (y.1 < x.1))
def shapedB (ps rg : Nat) (L : List Rg) (l : List (Int × Int)) : Bool := rightL ps L && decide (L.length ≤ rg) && (List.range l.length).all (slotB L l)
theorem shaped_no {ps rg : Nat} {L : List Rg} {l : List (Int × Int)} {j : Nat} (hj : j < l.length) (h : slotB L l j = false) : shapedB ps rg L l = false := by
  unfold shapedB
  rw [show (List.range l.length).all (slotB L l) = false from by rw [List.all_eq_false]; exact ⟨j, by simp [hj], by simp [h]⟩, Bool.and_false]
theorem shaped_yes {ps rg : Nat} {L : List Rg} {l : List (Int × Int)} (h1 : rightL ps L = true) (h2 : L.length ≤ rg) (h : ∀ i, i < l.length → slotB L l i = true) : shapedB ps rg L l = true := by
  unfold shapedB
  rw [h1, decide_eq_true h2, show (List.range l.length).all (slotB L l) = true from by rw [List.all_eq_true]; intro i hi; exact h i (by simpa using hi)]
  rfl
theorem slot_find {L : List Rg} {l : List (Int × Int)} {j : Nat} {x : Int × Int} (hx : l[j]? = some x) (h : findB L x.1 = false) : slotB L l j = false := by
  unfold slotB
  rw [hx]
  simp [h]
theorem slot_zero {L : List Rg} {l : List (Int × Int)} {x : Int × Int} (hx : l[0]? = some x) (h : findB L x.1 = true) : slotB L l 0 = true := by
  unfold slotB
  rw [hx]
  simp [h]
theorem slot_succ {L : List Rg} {l : List (Int × Int)} {j : Nat} {x y : Int × Int} (hx : l[j + 1]? = some x) (hy : l[j]? = some y) (h : findB L x.1 = true) : slotB L l (j + 1) = decide (y.1 < x.1) := by
  unfold slotB
  rw [hx]
  simp [h, hy]
theorem EAt.sl {w : World} {g o : Nat} {l : List (Int × Int)} {j : Nat} {x : Int × Int} (hc : ∀ (i : Nat) (x : Int × Int), l[i]? = some x → ∀ (j : Nat) (u : Value), (slE.cells x)[j]? = some u → w.cell? ⟨g, o + i * slE.k + j, none⟩ = some u) (hx : l[j]? = some x) :
    w.cell? ⟨g, o + j * 2, none⟩ = some (.int .i64 x.1) ∧ w.cell? ⟨g, o + j * 2 + 1, none⟩ = some (.int .i64 x.2) := ⟨hc j x hx 0 _ rfl, hc j x hx 1 _ rfl⟩
theorem alloc_cells (w : World) (arr : Array Value) (t : TypeId) (k : Nat) (v : Value) (h : arr[k]? = some v) : (w.alloc (.cells arr t)).cell? ⟨w.heap.size, k, none⟩ = some v := by
  rw [cell_of_row _ _ _ _ _ _ (heap_alloc_new w _)]; exact h
set_option maxRecDepth 100000 in
set_option maxHeartbeats 8000000 in
theorem shaped_any (w : World) {cf : Nat → Int} {ps rg : Nat} (e7 : cf 7 = (rg : Nat)) (e8 : cf 8 = (ps : Nat)) (hrg : rg ≤ 32) {A B : Option Addr} (cA cB : Nat) {L : List Rg} {l : List (Int × Int)} (hL : RgAt w A L) (hn : L.length ≤ 10000) (hl : EAt slE w B l) (hln : l.length ≤ 100000) :
    Calls Tryz.prog 74 #[cfgV cf, .slice A L.length cA, .slice B l.length cB] w fun e w' => e = .returned (.bool (shapedB ps rg L l)) ∧ Below w.heap.size w w' := by
  have HL := Lib.hid hL
  have HE := Lib.hid hl
  obtain ⟨R, hR⟩ : ∃ R, shapedB ps rg L l = R := ⟨_, rfl⟩
  have HNO : Hid (∀ j, j < l.length → slotB L l j = false → R = false) := Lib.hid fun j h1 h2 => by rw [← hR]; exact shaped_no h1 h2
  have HNR : Hid (rightL ps L = false → R = false) := Lib.hid fun h => by rw [← hR]; unfold shapedB; rw [h]; rfl
  have HNL : Hid (¬ L.length ≤ rg → R = false) := Lib.hid fun h => by rw [← hR]; unfold shapedB; rw [decide_eq_false h, Bool.and_false]; rfl
  have HYES : Hid (rightL ps L = true → L.length ≤ rg → (∀ i, i < l.length → slotB L l i = true) → R = true) := Lib.hid fun h1 h2 h => by rw [← hR]; exact shaped_yes h1 h2 h
  rw [hR]
  clear hL hl hR
  unfold cfgV
  rw [e7, e8]
  generalize cf 0 = x0 at *
  generalize cf 1 = x1 at *
  generalize cf 2 = x2 at *
  generalize cf 3 = x3 at *
  generalize cf 4 = x4 at *
  generalize cf 5 = x5 at *
  generalize cf 6 = x6 at *
  clear e7 e8
  go_enter Tryz.func74, Tryz.ntmps74
  go_upto_region 1 with (fail)
  refine wp_forget (fun V => Below w.heap.size w V ∧ V.cell? ⟨w.heap.size, 7, none⟩ = some (.int .i64 (rg : Nat)) ∧ V.cell? ⟨w.heap.size, 8, none⟩ = some (.int .i64 (ps : Nat))) ⟨(Below.refl _ _).alloc (Nat.le_refl _) _, alloc_cells _ _ _ 7 _ rfl, alloc_cells _ _ _ 8 _ rfl⟩ ?_
  rintro V ⟨hbv, c7, c8⟩
  obtain ⟨b3, hb3⟩ : ∃ g, w.heap.size = g := ⟨_, rfl⟩
  rw [hb3] at c7 c8
  rw [hb3]
  have HBV := Lib.hid hbv
  have HB3 := Lib.hid hb3
  have l8 := lt_of_cell c8
  have HR := Lib.hid (rightG_any V cA (HL.out.up hbv) (by omega) (ps : Int))
  clear hbv hb3
  obtain ⟨g1, hg1⟩ : ∃ g, rightL ps L = g := ⟨_, rfl⟩
  rw [hg1] at HR HNR HYES
  clear hg1
  cases g1 with
  | false =>
    go_wp2_with (go_at_call 119; go_loud (refine HR.out.mono ?_; rintro e w1 ⟨rfl, hb⟩; have HB := Lib.hid hb; clear hb))
    go_ret
    exact ⟨by rw [HNR.out (by simp)] <;> rfl, HBV.out.trans (HB.out.mono HBV.out.size)⟩
  | true =>
    by_cases hlr : L.length ≤ rg
    · have hdl : decide ((rg : Int) < (L.length : Int)) = false := decide_eq_false (by omega)
      go_upto_region 3 with (go_at_call 119; go_loud (refine HR.out.mono ?_; rintro e w1 ⟨rfl, hb⟩; have d7 := (hb.cell (p := ⟨b3, 7, none⟩) l8).trans c7; have l8' := lt_of_cell d7; have HB := Lib.hid (HBV.out.trans (hb.mono HBV.out.size)); clear hb))
      clear c7 c8 l8 d7 l8' HR
      go_wp2_with fail
      have hdl2 : decide (rg < L.length) = false := decide_eq_false (by omega)
      simp only [hdl2]
      go_loopw [25, 7, 8, 9, 10] (fun i _ _ _ _ wr => ∃ (j : Nat), j ≤ l.length ∧ i = .int .i64 (j : Nat) ∧ Below w.heap.size w wr ∧ ∀ q, q < j → slotB L l q = true) (fun i _ _ _ _ _ => l.length - (intOf i).toNat)
      case atStart => exact ⟨0, by omega, rfl, HB.out, fun q h => by omega⟩
      case round =>
        obtain ⟨j, hj, rfl, hb, hok⟩ := hrel
        have HBR := Lib.hid hb
        have HOK := Lib.hid hok
        clear hok HB
        by_cases hjn : j < l.length
        · obtain ⟨x, hx⟩ : ∃ x, l[j]? = some x := ⟨_, List.getElem?_eq_getElem hjn⟩
          obtain ⟨g, o, hA, hg, hc⟩ := (HE.out.up hb).at_ (by omega)
          obtain ⟨q0, q1⟩ := EAt.sl hc hx
          have hjI : (j : Int) < (l.length : Int) := by omega
          rw [hA]
          have HA := Lib.hid hA
          have HX := Lib.hid hx
          obtain ⟨xk, xi⟩ := x
          simp only at q0 q1
          clear hc hA hx hb
          go_upto_region 6 with (fail)
          refine wp_forget (fun V => Below wr.heap.size wr V ∧ V.cell? ⟨wr.heap.size, 0, none⟩ = some (.int .i64 xk)) ⟨(Below.refl _ _).alloc (Nat.le_refl _) _, alloc_cells _ _ _ 0 _ rfl⟩ ?_
          rintro W ⟨hbw, y0⟩
          obtain ⟨b8, hb8⟩ : ∃ g, wr.heap.size = g := ⟨_, rfl⟩
          rw [hb8] at y0
          rw [hb8]
          have ly := lt_of_cell y0
          have HBW := Lib.hid (HBR.out.trans (hbw.mono HBR.out.size))
          have HFI := Lib.hid (findG_any W cA (HL.out.up HBW.out) (by omega) xk)
          clear hbw q0 q1 hb8
          go_upto_region 7 with (go_at_call 120; go_loud (refine HFI.out.mono ?_; rintro e W1 ⟨⟨z1, z2, z3, rfl⟩, hb1⟩; have y1 := (hb1.cell (p := ⟨b8, 0, none⟩) ly).trans y0; have ly1 := lt_of_cell y1; have HB1 := Lib.hid (HBW.out.trans (hb1.mono HBW.out.size)); clear hb1))
          clear y0 ly HFI
          refine wp_forget (fun V => Below w.heap.size w V ∧ V.cell? ⟨b8, 0, none⟩ = some (.int .i64 xk)) ⟨HB1.out.trans (((Below.refl _ _).alloc (Nat.le_refl _) _).mono HB1.out.size), (((Below.refl W1.heap.size W1).alloc (Nat.le_refl _) _).cell (p := ⟨b8, 0, none⟩) ly1).trans y1⟩ ?_
          rintro W2 ⟨hb2, v0⟩
          have lv := lt_of_cell v0
          have HB2 := Lib.hid hb2
          clear y1 ly1 HBW HB1
          obtain ⟨fb, hfb⟩ : ∃ z, findB L xk = z := ⟨_, rfl⟩
          rw [hfb]
          have HFB := Lib.hid hfb
          cases fb with
          | false =>
            have HR2 := Lib.hid (HNO.out j hjn (slot_find HX.out HFB.out))
            clear hb2 hfb
            go_upto_region 7 with (fail)
            go_quiet (fail)
            go_wp2
            go_ret
            exact ⟨by rw [HR2.out] <;> rfl, below_drewN HB2.out _⟩
          | true =>
            by_cases hj0 : j = 0
            · have HZ : Hid (slotB L l j = true) := Lib.hid (by
                have h := HX.out
                rw [hj0] at h ⊢
                exact slot_zero h HFB.out)
              have hjz : decide ((0 : Int) < (j : Int)) = false := decide_eq_false (by omega)
              have hjz2 : decide (0 < j) = false := decide_eq_false (by omega)
              have HJ0 := Lib.hid hj0
              clear hb2 hfb hj0
              go_upto_region 7 with (fail)
              go_quiet (fail)
              go_wp2
              go_roundw
              case rel =>
                have hj0 := HJ0.out
                refine ⟨j + 1, by omega, by go_num, below_drewN HB2.out _, fun q hq => ?_⟩
                obtain rfl : q = j := by omega
                exact HZ.out
              case measure => simp [intOf]; omega
            · obtain ⟨i, hji⟩ : ∃ i, j = i + 1 := ⟨j - 1, by omega⟩
              have HJI := Lib.hid hji
              obtain ⟨y, hy⟩ : ∃ y, l[i]? = some y := ⟨_, List.getElem?_eq_getElem (by omega)⟩
              have hA2 := HA.out
              obtain ⟨g', o', hA', hg', hc'⟩ := (HE.out.up hb2).at_ (by omega)
              rw [hA2] at hA'
              cases hA'
              obtain ⟨p0, _⟩ := EAt.sl hc' hy
              have HS : Hid (slotB L l j = decide (y.1 < xk)) := Lib.hid (by
                have h := HX.out
                rw [hji] at h ⊢
                exact slot_succ h hy HFB.out)
              obtain ⟨yk, yi⟩ := y
              simp only at p0 HS
              have hjz : decide ((0 : Int) < (j : Int)) = true := decide_eq_true (by omega)
              have hjz2 : decide (0 < j) = true := decide_eq_true (by omega)
              have hsub : (j : Int) - 1 = (i : Int) := by omega
              have hwi : IntKind.i64.wrap (i : Int) = (i : Int) := IntWalk.i64_in _ (by omega)
              have hil : (i : Int) < (l.length : Int) := by omega
              clear hb2 hfb hc' hy hA2 hj0 hji
              by_cases hle : xk ≤ yk
              · have hdd : decide (xk ≤ yk) = true := decide_eq_true hle
                have HR2 := Lib.hid (HNO.out j hjn (by rw [HS.out]; exact decide_eq_false (by omega)))
                go_upto_region 7 with (fail)
                go_quiet (fail)
                go_wp2
                go_ret
                exact ⟨by rw [HR2.out] <;> rfl, below_drewN HB2.out _⟩
              · have hdd : decide (xk ≤ yk) = false := decide_eq_false hle
                have HS2 : Hid (slotB L l j = true) := Lib.hid (by rw [HS.out]; exact decide_eq_true (by omega))
                go_upto_region 7 with (fail)
                go_quiet (fail)
                go_wp2
                go_roundw
                case rel => exact ⟨j + 1, by omega, by go_num, below_drewN HB2.out _, fun q hq => by
                  by_cases e : q = j
                  · subst e; exact HS2.out
                  · exact HOK.out q (by omega)⟩
                case measure => simp [intOf]; omega
        · obtain rfl : j = l.length := by omega
          have hii : ¬ (l.length : Int) < (l.length : Int) := by omega
          clear hjn hb
          go_wp2
          go_ret
          exact ⟨by rw [HYES.out (by simp) hlr HOK.out] <;> rfl, HBR.out⟩
    · have hdl : decide ((rg : Int) < (L.length : Int)) = true := decide_eq_true (by omega)
      go_wp2_with (go_at_call 119; go_loud (refine HR.out.mono ?_; rintro e w1 ⟨rfl, hb⟩; have d7 := (hb.cell (p := ⟨b3, 7, none⟩) l8).trans c7; have l8' := lt_of_cell d7; have HB := Lib.hid (HBV.out.trans (hb.mono HBV.out.size)); clear hb))
      go_ret
      exact ⟨by rw [HNL.out hlr] <;> rfl, HB.out⟩
end Go.Proofs.YtlhfjaagkgengaaGreat
