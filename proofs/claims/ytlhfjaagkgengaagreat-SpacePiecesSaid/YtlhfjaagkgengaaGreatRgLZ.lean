/- region: Right. -/
import Derived.Test.YtlhfjaagkgengaaGreatRgKZ
namespace Go.Proofs.YtlhfjaagkgengaaGreat
open Go.RowKit
set_option linter.unusedVariables false
set_option linter.unusedSimpArgs false
/-- A region may stand by itself; behind another one. -/
def goodS (pages : Int) (r : Rg) : Bool := decide (0 ≤ r.lo ∧ r.lo < r.hi ∧ r.hi ≤ pages) && protB r.pr
def goodP (y r : Rg) : Bool := decide (y.hi ≤ r.lo ∧ ¬ (r.lo = y.hi ∧ r.pr = y.pr))
def goodAt (pages : Int) (L : List Rg) (i : Nat) : Bool :=
  match L[i]? with
  | none => true
  | some r => goodS pages r && (match i with
    | 0 => true
    | k + 1 => match L[k]? with
      | none => true
      | some y => goodP y r)
def rightL (pages : Int) (L : List Rg) : Bool := (List.range L.length).all (goodAt pages L)
theorem right_no {pages : Int} {L : List Rg} {j : Nat} (hj : j < L.length) (h : goodAt pages L j = false) : rightL pages L = false := by
  unfold rightL
  rw [List.all_eq_false]
  exact ⟨j, by simp [hj], by simp [h]⟩
theorem right_yes {pages : Int} {L : List Rg} (h : ∀ i, i < L.length → goodAt pages L i = true) : rightL pages L = true := by
  unfold rightL
  rw [List.all_eq_true]
  intro i hi
  exact h i (by simpa using hi)
theorem good_s {pages : Int} {L : List Rg} {j : Nat} {r : Rg} (hr : L[j]? = some r) (h : goodS pages r = false) : goodAt pages L j = false := by
  unfold goodAt
  rw [hr]
  simp [h]
theorem good_z {pages : Int} {L : List Rg} {r : Rg} (hr : L[0]? = some r) (h : goodS pages r = true) : goodAt pages L 0 = true := by
  unfold goodAt
  rw [hr]
  simp [h]
theorem good_k {pages : Int} {L : List Rg} {k : Nat} {r y : Rg} (hr : L[k + 1]? = some r) (hy : L[k]? = some y) (h : goodS pages r = true) : goodAt pages L (k + 1) = goodP y r := by
  unfold goodAt
  rw [hr]
  simp [h, hy]
set_option maxRecDepth 100000 in
set_option maxHeartbeats 8000000 in
theorem rightG_any (w : World) {A : Option Addr} (c : Nat) {L : List Rg} (hL : RgAt w A L) (hn : L.length ≤ 100000) (pages : Int) :
    Calls Tryz.prog 119 #[.slice A L.length c, .int .i64 pages] w fun e w' => e = .returned (.bool (rightL pages L)) ∧ Below w.heap.size w w' := by
  have HL := Lib.hid hL
  obtain ⟨R, hR⟩ : ∃ R, rightL pages L = R := ⟨_, rfl⟩
  rw [hR]
  have HNO0 : Hid (∀ j, j < L.length → goodAt pages L j = false → R = false) := Lib.hid fun j h1 h2 => by rw [← hR]; exact right_no h1 h2
  have HYES : Hid ((∀ i, i < L.length → goodAt pages L i = true) → R = true) := Lib.hid fun h => by rw [← hR]; exact right_yes h
  clear hL hR
  go_enter Tryz.func119, Tryz.ntmps119
  go_wp2
  go_loopw [9, 5, 6] (fun i b5 b6 wr => ∃ (j : Nat), j ≤ L.length ∧ i = .int .i64 (j : Nat) ∧ Below w.heap.size w wr ∧ ∀ i, i < j → goodAt pages L i = true) (fun i _ _ _ => L.length - (intOf i).toNat)
  case atStart => exact ⟨0, by omega, rfl, Below.refl _ _, fun i h => by omega⟩
  case round =>
    obtain ⟨j, hj, rfl, hb, hok⟩ := hrel
    have HB := Lib.hid hb
    have HOK := Lib.hid hok
    by_cases hjn : j < L.length
    · have hrow := HL.out.up hb
      obtain ⟨g, o, hA, hg, hc⟩ := hrow.at_ (by omega)
      obtain ⟨r, hr⟩ : ∃ r, L[j]? = some r := ⟨_, List.getElem?_eq_getElem hjn⟩
      obtain ⟨q0, q1, q2⟩ := hc j r hr
      have hjI : (j : Int) < (L.length : Int) := by omega
      have HNO := Lib.hid (HNO0.out j hjn)
      have HROW := Lib.hid hrow
      have HRJ := Lib.hid hr
      obtain ⟨ra, rb, rp⟩ := r
      have HA := Lib.hid hA
      simp only at q0 q1 q2
      rw [hA]
      clear hb hok hc hrow hr hA
      go_upto_region 4 with (fail)
      refine wp_forget (fun V => Below wr.heap.size wr V ∧ Rg3 V wr.heap.size ra rb rp) ⟨(Below.refl _ _).alloc (Nat.le_refl _) _, Rg3.new wr ra rb rp 62⟩ ?_
      rintro V ⟨hbv, k7⟩
      obtain ⟨g7, hg7⟩ : ∃ g, wr.heap.size = g := ⟨_, rfl⟩
      rw [hg7] at k7
      rw [hg7]
      have HBV := Lib.hid hbv
      have HBW := Lib.hid (HB.out.trans (hbv.mono HB.out.size))
      obtain ⟨x0, x1, x2⟩ := k7
      have lx := lt_of_cell x0
      clear hbv q0 q1 q2 hg7 HB hg
      by_cases h1 : ra < 0
      · have HV : Hid (R = false) := Lib.hid (HNO.out (good_s HRJ.out (by unfold goodS; rw [decide_eq_false (by simp only; omega)]; rfl)))
        have hd1 : decide (ra < 0) = true := decide_eq_true h1
        go_wp2
        go_ret
        exact ⟨by rw [HV.out]; rfl, HBW.out⟩
      have hd1 : decide (ra < 0) = false := decide_eq_false h1
      by_cases h2 : rb ≤ ra
      · have HV : Hid (R = false) := Lib.hid (HNO.out (good_s HRJ.out (by unfold goodS; rw [decide_eq_false (by simp only; omega)]; rfl)))
        have hd2 : decide (rb ≤ ra) = true := decide_eq_true h2
        go_wp2
        go_ret
        exact ⟨by rw [HV.out]; rfl, HBW.out⟩
      have hd2 : decide (rb ≤ ra) = false := decide_eq_false h2
      by_cases h3 : pages < rb
      · have HV : Hid (R = false) := Lib.hid (HNO.out (good_s HRJ.out (by unfold goodS; rw [decide_eq_false (by simp only; omega)]; rfl)))
        have hd3 : decide (pages < rb) = true := decide_eq_true h3
        go_wp2
        go_ret
        exact ⟨by rw [HV.out]; rfl, HBW.out⟩
      have hd3 : decide (pages < rb) = false := decide_eq_false h3
      obtain ⟨b, hb⟩ : ∃ b, protB rp = b := ⟨_, rfl⟩
      have HP : Hid (Calls Tryz.prog 158 #[.int .i64 rp] V fun e w' => e = .returned (.bool b) ∧ w' = V) := Lib.hid (by rw [← hb]; exact prot_any V rp)
      have HGS : Hid (goodS pages ⟨ra, rb, rp⟩ = b) := Lib.hid (by unfold goodS; rw [decide_eq_true (by simp only; omega)]; simpa using hb)
      clear hb
      cases b with
      | false =>
        have HV : Hid (R = false) := Lib.hid (HNO.out (good_s HRJ.out HGS.out))
        go_wp2_with (go_at_call 158; refine HP.out.mono ?_; rintro e V ⟨rfl, rfl⟩)
        go_ret
        exact ⟨by rw [HV.out]; rfl, HBW.out⟩
      | true =>
        go_upto_region 6 with (go_at_call 158; refine HP.out.mono ?_; rintro e V ⟨rfl, rfl⟩)
        clear h1 h2 h3 hd1 hd2 hd3 HP
        cases j with
        | zero =>
          have hz : decide ((0 : Int) < ((0 : Nat) : Int)) = false := by simp
          go_quiet (fail)
          go_wp2
          go_roundw
          case rel => exact ⟨1, by omega, by go_num, (below_drewN HBW.out _), fun i hi => by
            obtain rfl : i = 0 := by omega
            exact good_z HRJ.out HGS.out⟩
          case measure => simp [intOf]; omega
        | succ k =>
          obtain ⟨y, hy⟩ : ∃ y, L[k]? = some y := ⟨_, List.getElem?_eq_getElem (by omega)⟩
          have HGK := Lib.hid (good_k HRJ.out hy HGS.out)
          obtain ⟨g', o', hA', hg', hc'⟩ := (HROW.out.up HBV.out).at_ (by omega)
          have hAA := HA.out.symm.trans hA'
          injection hAA with hAA
          injection hAA with e1 e2
          subst e1 e2
          obtain ⟨z0, z1, z2⟩ := hc' k y hy
          obtain ⟨ya, yb, yp⟩ := y
          simp only at z0 z1 z2
          have hm : (0 : Int) < ((k + 1 : Nat) : Int) := by omega
          have hi : IntKind.i64.wrap (((k + 1 : Nat) : Int) - 1) = (k : Int) := by rw [IntWalk.i64_in _ (by omega)]; omega
          have hbk : (k : Int) < (L.length : Int) := by omega
          have hbn : k < L.length := by omega
          clear hc' hy hA'
          unfold goodP at HGK
          simp only at HGK
          have HOK2 : Hid (goodAt pages L (k + 1) = true → ∀ i, i < k + 1 + 1 → goodAt pages L i = true) := Lib.hid fun h i hi => by
            by_cases e : i = k + 1
            · subst e; exact h
            · exact HOK.out i (by omega)
          by_cases h1 : ra < yb
          · have HV : Hid (R = false) := Lib.hid (HNO.out (by rw [HGK.out]; exact decide_eq_false (by omega)))
            have hd1 : decide (ra < yb) = true := decide_eq_true h1
            go_quiet (fail)
            go_wp2
            go_ret
            exact ⟨by rw [HV.out]; rfl, (below_drewN HBW.out _)⟩
          have hd1 : decide (ra < yb) = false := decide_eq_false h1
          by_cases h2 : ra = yb
          · by_cases h3 : rp = yp
            · have HV : Hid (R = false) := Lib.hid (HNO.out (by rw [HGK.out]; exact decide_eq_false (by omega)))
              have hb2 : (ra == yb) = true := by simp [h2]
              have hb3 : (rp == yp) = true := by simp [h3]
              clear h2 h3 h1
              go_quiet (fail)
              go_wp2
              go_ret
              exact ⟨by rw [HV.out]; rfl, (below_drewN HBW.out _)⟩
            · have HV : Hid (goodAt pages L (k + 1) = true) := Lib.hid (by rw [HGK.out]; exact decide_eq_true (by omega))
              have hb2 : (ra == yb) = true := by simp [h2]
              have hb3 : (rp == yp) = false := by simp [h3]
              clear h2 h3 h1
              go_quiet (fail)
              go_wp2
              go_roundw
              case rel => exact ⟨k + 1 + 1, by omega, by go_num, (below_drewN HBW.out _), HOK2.out HV.out⟩
              case measure => simp [intOf]; omega
          · have HV : Hid (goodAt pages L (k + 1) = true) := Lib.hid (by rw [HGK.out]; exact decide_eq_true (by omega))
            have hb2 : (ra == yb) = false := by simp [h2]
            clear h2 h1
            go_quiet (fail)
            go_wp2
            go_roundw
            case rel => exact ⟨k + 1 + 1, by omega, by go_num, (below_drewN HBW.out _), HOK2.out HV.out⟩
            case measure => simp [intOf]; omega
    · obtain rfl : j = L.length := by omega
      have hjj : ¬ (L.length : Int) < (L.length : Int) := by omega
      have HV : Hid (R = true) := Lib.hid (HYES.out fun i hi => HOK.out i hi)
      clear hok hjn hb
      go_wp2
      go_ret
      exact ⟨by rw [HV.out]; rfl, HB.out⟩
end Go.Proofs.YtlhfjaagkgengaaGreat
