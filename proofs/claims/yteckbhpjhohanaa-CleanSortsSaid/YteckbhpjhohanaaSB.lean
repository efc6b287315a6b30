/- rotate, insertionSort. -/
import Derived.Test.YteckbhpjhohanaaSA
import Derived.IntWalk
namespace Go.Proofs.Yteckbhpjhohanaa
open Go.RowKit
set_option linter.unusedVariables false
set_option linter.unusedSimpArgs false

set_option maxHeartbeats 2000000 in
theorem rotate_any {K : Nat} (w : World) (e : Env) (B a m b : Nat) (D : Nat → Int) (cmp : Value) (h : DS w e B D) (h1 : a < m) (h2 : m < b) (h3 : b ≤ e.n) :
    Calls Try.prog 18 #[.slice (some ⟨B, 0, none⟩) e.n K, .int .i64 a, .int .i64 m, .int .i64 b, cmp] w (SwpPost e B (rot D a m b) w) := by
  have hm := h.env.most
  have H0 : Hid (DS w e B D ∧ Off (SBl e B) w w) := ⟨h, Off.refl _ _⟩
  clear h
  go_enter Try.func18, Try.ntmps18
  go_wp2
  go_loopw [10, 11] (fun u v wr => ∃ (i j : Nat) (D1 : Nat → Int), 0 < i ∧ i ≤ m - a ∧ 0 < j ∧ j ≤ b - m ∧ u = .int .i64 i ∧ v = .int .i64 j ∧ rot D1 (m - i) m (m + j) = rot D a m b ∧ DS wr e B D1 ∧ Off (SBl e B) w wr) (fun u v _ => (intOf u).toNat + (intOf v).toNat)
  case atStart => exact ⟨m - a, b - m, D, by omega, by omega, by omega, by omega, by go_num, by go_num, by rw [show m - (m - a) = a by omega, show m + (b - m) = b by omega], H0.out.1, H0.out.2⟩
  case round =>
    obtain ⟨i, j, D1, i0, i1, j0, j1, rfl, rfl, hr, hd, ho⟩ := hrel
    clear H0
    have HR := Lib.hid hr
    have HD := Lib.hid hd
    have HO := Lib.hid ho
    clear hr hd ho
    by_cases heq : i = j
    · obtain rfl : i = j := heq
      go_wp2_with fail
      have q : ((m : Int) - (i : Int)) = ((m - i : Nat) : Int) := by omega
      rw [q]
      refine (swapRange_any (K := K) _ e B (m - i) m i D1 cmp HD.out (by omega) (by omega)).mono ?_
      rintro en w1 ⟨rfl, hd1, ho1⟩
      rw [rot_same D1 m i (by omega), HR.out] at hd1
      have HX : Hid (DS w1 e B (rot D a m b) ∧ Off (SBl e B) w w1) := ⟨hd1, HO.out.trans ho1⟩
      clear hd1 ho1 HR HD HO q
      go_wp2
      go_end0
      exact ⟨rfl, HX.out.1, HX.out.2⟩
    · have hne : ((i : Int) == (j : Int)) = false := by simp; omega
      have hne2 : ((i : Int) != (j : Int)) = true := by simp; omega
      by_cases hgt : j < i
      · go_wp2_with fail
        have q : ((m : Int) - (i : Int)) = ((m - i : Nat) : Int) := by omega
        rw [q]
        refine (swapRange_any (K := K) _ e B (m - i) m j D1 cmp HD.out (by omega) (by omega)).mono ?_
        rintro en w1 ⟨rfl, hd1, ho1⟩
        have HX : Hid (rot (swpR D1 (m - i) m j) (m - (i - j)) m (m + j) = rot D a m b ∧ DS w1 e B (swpR D1 (m - i) m j) ∧ Off (SBl e B) w w1) := ⟨by rw [rot_more D1 m i j (by omega) j0 hgt, HR.out], hd1, HO.out.trans ho1⟩
        clear hd1 ho1 HR HD HO q
        go_wp2
        go_roundw
        case rel => exact ⟨i - j, j, _, by omega, by omega, by omega, by omega, by go_num, rfl, HX.out.1, HX.out.2.1, HX.out.2.2⟩
        case measure => simp [intOf]; omega
      · go_wp2_with fail
        have q : ((m : Int) - (i : Int)) = ((m - i : Nat) : Int) := by omega
        have q2 : ((m : Int) + (j : Int) - (i : Int)) = ((m + j - i : Nat) : Int) := by omega
        rw [q, q2]
        refine (swapRange_any (K := K) _ e B (m - i) (m + j - i) i D1 cmp HD.out (by omega) (by omega)).mono ?_
        rintro en w1 ⟨rfl, hd1, ho1⟩
        have HX : Hid (rot (swpR D1 (m - i) (m + j - i) i) (m - i) m (m + (j - i)) = rot D a m b ∧ DS w1 e B (swpR D1 (m - i) (m + j - i) i) ∧ Off (SBl e B) w w1) := ⟨by rw [rot_less D1 m i j (by omega) i0 (by omega), HR.out], hd1, HO.out.trans ho1⟩
        clear hd1 ho1 HR HD HO q q2
        go_wp2
        go_roundw
        case rel => exact ⟨i, j - i, _, by omega, by omega, by omega, by omega, rfl, by go_num, HX.out.1, HX.out.2.1, HX.out.2.2⟩
        case measure => simp [intOf]; omega

def InsPost (e : Env) (B a b : Nat) (D : Nat → Int) (w : World) (en : Ending) (w' : World) : Prop := ∃ D', en = .returned (.tuple #[]) ∧ Pm a b D D' ∧ (e.odd = false → Rise a b D → Srt e.val a b D') ∧ DS w' e B D' ∧ Off (SBl e B) w w'

/-- A number that is put in. -/
structure InsAt (w : World) (e : Env) (B a b i j : Nat) (D : Nat → Int) (wr : World) (D2 : Nat → Int) : Prop where
  le : a ≤ j ∧ j ≤ i
  pm : Pm a (i + 1) D D2
  ord : e.odd = false → Rise a b D → Ins e.val a i j D2
  ds : DS wr e B D2
  off : Off (SBl e B) w wr

theorem off_cmp {e : Env} {B : Nat} {a b c : World} (h : Off (SBl e B) a b) (k : Off (· = e.cN) b c) : Off (SBl e B) a c := h.trans (k.mono fun _ x => .inr x)

set_option maxHeartbeats 4000000 in
theorem insertion_any {K : Nat} (w : World) (e : Env) (B a b : Nat) (D : Nat → Int) (h : DS w e B D) (h1 : a ≤ b) (h2 : b ≤ e.n) (hn : 0 < e.n) :
    Calls Try.prog 15 #[.slice (some ⟨B, 0, none⟩) e.n K, .int .i64 a, .int .i64 b, .func (.func 10) #[] #[.pointer (some ⟨e.cF, 0, none⟩)]] w (InsPost e B a b D w) := by
  have hm := h.env.most
  have cfC := cfC
  have H0 : Hid (DS w e B D ∧ Off (SBl e B) w w) := ⟨h, Off.refl _ _⟩
  clear h
  go_enter Try.func15, Try.ntmps15
  go_wp2
  go_loopw [8] (fun u wr => ∃ (i : Nat) (D1 : Nat → Int), a < i ∧ (i ≤ b ∨ i = a + 1) ∧ u = .int .i64 i ∧ (i = a + 1 → D1 = D) ∧ Pm a i D D1 ∧ (e.odd = false → Rise a b D → Srt e.val a i D1) ∧ DS wr e B D1 ∧ Off (SBl e B) w wr) (fun u _ => b - (intOf u).toNat)
  case atStart => exact ⟨a + 1, D, by omega, .inr rfl, by go_num, fun _ => rfl, Pm.refl _ _ _, fun _ _ => Srt.one _ _ _ _ (by omega), H0.out.1, H0.out.2⟩
  case round =>
    obtain ⟨i, D1, i0, i1, rfl, hz, hp, hs, hd, ho⟩ := hrel
    clear H0
    by_cases hlt : i < b
    · have H1 : Hid (InsAt w e B a b i i D wr D1) := ⟨⟨by omega, by omega⟩, hp.mono (Nat.le_refl _) (by omega), fun k1 k2 => Ins.start (hs k1 k2) (fun p g1 g2 => by
        obtain ⟨q, q1, q2, q3⟩ := hp.inn g1 g2
        rw [q3, hp.out (i := i) (by omega)]
        exact k2 q i q1 (by omega) hlt), hd, ho⟩
      clear hp hs hd ho hz
      obtain ⟨wo, rfl⟩ : ∃ wo : World, wo = wr := ⟨_, rfl⟩
      go_wp2
      go_loopw [9] (fun u wr => ∃ (j : Nat) (D2 : Nat → Int), u = .int .i64 j ∧ InsAt w e B a b i j D wr D2) (fun u _ => (intOf u).toNat)
      case atStart => exact ⟨i, D1, rfl, H1.out⟩
      case round =>
        obtain ⟨j, D2, rfl, hI⟩ := hrel
        clear H1
        obtain ⟨j1, j2⟩ := hI.le
        have HI := Lib.hid hI
        clear hI
        by_cases hj : a < j
        · have c0 := HI.out.ds.dat j (by omega)
          have c1 := HI.out.ds.dat (j - 1) (by omega)
          obtain ⟨x, hx, hx1⟩ := HI.out.ds.rng j (by omega)
          obtain ⟨y, hy, hy1⟩ := HI.out.ds.rng (j - 1) (by omega)
          rw [hx] at c0
          rw [hy] at c1
          have i0 : (0 : Int) ≤ (j : Int) := by omega
          have i1 : (j : Int) < (e.n : Int) := by omega
          have i2 : (0 : Int) ≤ (j : Int) - 1 := by omega
          have i3 : (j : Int) - 1 < (e.n : Int) := by omega
          have i4 : ((j : Int) - 1).toNat = j - 1 := by omega
          have i5 : (1 : Int) ≤ (j : Int) := by omega
          have i6 : IntKind.i64.wrap ((j : Int) - 1) = (j : Int) - 1 := IntWalk.i64_in _ (by omega)
          have i7 : decide ((a : Int) < (j : Int)) = true := by simp; omega
          have HC := Lib.hid (cmp_any wr.drew e x y (HI.out.ds.env.up (Below.refl _ _).drew) hx1 hy1)
          have HXY : Hid (D2 j = x ∧ D2 (j - 1) = y) := ⟨hx, hy⟩
          clear hx hy
          go_wp2
          go_region_held3 (fun w' => w'.cell? ⟨B, j, none⟩ = some (.int .i64 x) ∧ w'.cell? ⟨B, j - 1, none⟩ = some (.int .i64 y))
            (first | exact ⟨K0, K1⟩ | go_keep)
            (first | (go_at_call 10; refine HC.out.mono ?_; rintro en w1 ⟨v, rfl, hv, he1, ho1⟩; have K0 := (ho1.cell (p := ⟨B, j, none⟩) (lt_of_cell c0) HI.out.ds.ne.2).trans c0; have K1 := (ho1.cell (p := ⟨B, j - 1, none⟩) (lt_of_cell c1) HI.out.ds.ne.2).trans c1; have HV := Lib.hid hv; have HE1 := Lib.hid he1; have HO1 := Lib.hid ho1; clear hv he1 ho1))
          clear i4 i5 i6 i7 HC
          have HD1 : Hid (DS w1 e B D2 ∧ Off (SBl e B) w w1) := ⟨HI.out.ds.drew.cmp HE1.out HO1.out hn, off_cmp HI.out.off.drew HO1.out⟩
          have HV2 : Hid (e.odd = false → (v < 0 ↔ e.val (D2 j) < e.val (D2 (j - 1)))) := fun ho => by rw [HXY.out.1, HXY.out.2]; exact HV.out ho
          clear HV HE1 HO1 c0 c1
          by_cases hv : v < 0
          · have z0 := HD1.out.1.fz j
            have z1 := HD1.out.1.fz (j - 1)
            have HX : Hid (∀ W, W = (w1.drew.setCell ⟨B, j, none⟩ (.int .i64 y)).setCell ⟨B, j - 1, none⟩ (.int .i64 x) → InsAt w e B a b i (j - 1) D W (swp D2 j (j - 1))) := by
              rintro W rfl
              refine ⟨⟨by omega, by omega⟩, HI.out.pm.trans (Pm.swp _ (by omega) (by omega) (by omega) (by omega)), fun k1 k2 => ?_, ?_, (HD1.out.2.drew.setCell (.inl rfl) _).setCell (.inl rfl) _⟩
              · have g := HI.out.ord k1 k2
                have hl := (HV2.out k1).1 hv
                have ej : j = (j - 1) + 1 := by omega
                generalize j - 1 = q at ej hl ⊢
                subst ej
                exact g.step (by omega) (by omega) hl
              · have := HD1.out.1.drew.swap (i := j) (j := j - 1) (by omega) (by omega) (by omega)
                rw [HXY.out.1, HXY.out.2] at this
                exact this
            go_wp2
            go_region
            go_wp2
            go_roundw
            case rel => exact ⟨j - 1, _, by go_num, HX.out _ rfl⟩
            case measure => simp [intOf]; omega
          · have HX : Hid (Pm a (i + 1) D D2 ∧ (e.odd = false → Rise a b D → Srt e.val a (i + 1) D2)) := ⟨HI.out.pm, fun k1 k2 => (HI.out.ord k1 k2).done j1 (fun _ hl => hv ((HV2.out k1).2 hl))⟩
            go_wp2
            go_roundw
            case rel => exact ⟨i + 1, D2, by omega, .inl (by omega), by go_num, fun h => by omega, HX.out.1, HX.out.2, HD1.out.1, HD1.out.2⟩
            case measure => simp [intOf]; omega
        · have i7 : decide ((a : Int) < (j : Int)) = false := by simp; omega
          have HX : Hid (Pm a (i + 1) D D2 ∧ (e.odd = false → Rise a b D → Srt e.val a (i + 1) D2) ∧ (∀ k, DS (wr.drewN k) e B D2 ∧ Off (SBl e B) w (wr.drewN k))) :=
            ⟨HI.out.pm, fun k1 k2 => (HI.out.ord k1 k2).done j1 (fun h => absurd h hj), fun k => ⟨⟨HI.out.ds.env.drewN k, HI.out.ds.dat, HI.out.ds.fz, HI.out.ds.rng, HI.out.ds.ne⟩, HI.out.off.drewN k⟩⟩
          clear HI
          go_wp2
          go_quiet (fail)
          go_wp2
          go_roundw
          case rel => exact ⟨i + 1, D2, by omega, .inl (by omega), by go_num, fun h => by omega, HX.out.1, HX.out.2.1, (HX.out.2.2 _).1, (HX.out.2.2 _).2⟩
          case measure => simp [intOf]; omega
    · have HX : Hid (Pm a b D D1 ∧ (e.odd = false → Rise a b D → Srt e.val a b D1) ∧ DS wr e B D1 ∧ Off (SBl e B) w wr) := by
        by_cases hib : i = b
        · subst hib
          exact ⟨hp, hs, hd, ho⟩
        · have hia : i = a + 1 := by omega
          rw [hz hia] at hd ⊢
          exact ⟨Pm.refl _ _ _, fun _ _ => Srt.one _ _ _ _ (by omega), hd, ho⟩
      clear hp hs hd ho hz
      go_wp2
      go_end0
      exact ⟨D1, rfl, HX.out.1, HX.out.2.1, HX.out.2.2.1, HX.out.2.2.2⟩
end Go.Proofs.Yteckbhpjhohanaa
