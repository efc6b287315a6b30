/- symMerge, its small cases. -/
import Derived.Test.YteckbhpjhohanaaSB
namespace Go.Proofs.Yteckbhpjhohanaa
open Go.RowKit
set_option linter.unusedVariables false
set_option linter.unusedSimpArgs false

theorem Lt.le {v : Int → Int} {x y : Int} (h : Lt v x y) : v x ≤ v y := by unfold Lt at h; omega
/-- The number at a has gone to k; those between have come one down. -/
def shl (D : Nat → Int) (a k : Nat) : Nat → Int := fun p => if a ≤ p ∧ p < k then D (p + 1) else if p = k then D a else D p
theorem shl_zero (D : Nat → Int) (a : Nat) : shl D a a = D := by
  funext p
  unfold shl
  rw [if_neg (by omega)]
  split
  · rename_i h; rw [h]
  · rfl
theorem shl_succ (D : Nat → Int) (a k : Nat) (h : a ≤ k) : swp (shl D a k) k (k + 1) = shl D a (k + 1) := by
  funext p
  unfold swp shl
  by_cases h1 : p = k
  · subst h1
    rw [if_pos rfl, if_neg (by omega), if_neg (by omega), if_pos (by omega)]
  · rw [if_neg h1]
    by_cases h2 : p = k + 1
    · subst h2
      rw [if_pos rfl, if_neg (by omega), if_pos rfl, if_neg (by omega), if_pos rfl]
    · rw [if_neg h2]
      by_cases h3 : a ≤ p ∧ p < k
      · rw [if_pos h3, if_pos (by omega)]
      · rw [if_neg h3, if_neg h1, if_neg (by omega), if_neg h2]
/-- The number at m has gone to k; those between have come one up. -/
def shr (D : Nat → Int) (m k : Nat) : Nat → Int := fun p => if k < p ∧ p ≤ m then D (p - 1) else if p = k then D m else D p
theorem shr_top (D : Nat → Int) (m : Nat) : shr D m m = D := by
  funext p
  unfold shr
  rw [if_neg (by omega)]
  split
  · rename_i h; rw [h]
  · rfl
theorem shr_step (D : Nat → Int) (m k : Nat) (h : k + 1 ≤ m) : swp (shr D m (k + 1)) (k + 1) k = shr D m k := by
  funext p
  unfold swp shr
  by_cases h1 : p = k + 1
  · subst h1
    rw [if_pos rfl, if_neg (by omega), if_neg (by omega), if_pos (by omega)]
    congr 1
  · rw [if_neg h1]
    by_cases h2 : p = k
    · subst h2
      rw [if_pos rfl, if_neg (by omega), if_pos rfl, if_neg (by omega), if_pos rfl]
    · rw [if_neg h2]
      by_cases h3 : k + 1 < p ∧ p ≤ m
      · rw [if_pos h3, if_pos (by omega)]
      · rw [if_neg h3, if_neg h1, if_neg (by omega), if_neg h2]

theorem one_left {v : Int → Int} {a b i : Nat} {D : Nat → Int} (h1 : a + 1 ≤ i) (h2 : i ≤ b) (hl : ∀ c, a + 1 ≤ c → c < i → v (D c) < v (D a)) (hr : ∀ c, i ≤ c → c < b → ¬ v (D c) < v (D a)) (hs : Srt v (a + 1) b D) (hc : Crs a (a + 1) b D) : Srt v a b (shl D a (i - 1)) := by
  have e1 : ∀ p, a ≤ p → p < i - 1 → shl D a (i - 1) p = D (p + 1) := fun p g1 g2 => by unfold shl; rw [if_pos ⟨g1, g2⟩]
  have e2 : shl D a (i - 1) (i - 1) = D a := by unfold shl; rw [if_neg (by omega), if_pos rfl]
  have e3 : ∀ p, i ≤ p → shl D a (i - 1) p = D p := fun p g1 => by unfold shl; rw [if_neg (by omega), if_neg (by omega)]
  intro p q g1 g2 g3
  by_cases hp : p < i - 1
  · rw [e1 p g1 hp]
    by_cases hq : q < i - 1
    · rw [e1 q (by omega) hq]; exact hs _ _ (by omega) (by omega) (by omega)
    · by_cases hq2 : q = i - 1
      · rw [hq2, e2]; exact lt_of_less (hl _ (by omega) (by omega))
      · rw [e3 q (by omega)]; exact hs _ _ (by omega) (by omega) (by omega)
  · by_cases hp2 : p = i - 1
    · rw [hp2, e2, e3 q (by omega)]
      exact lt_of_not (hc a q (Nat.le_refl _) (by omega) (by omega) g3) (hr q (by omega) g3)
    · rw [e3 p (by omega), e3 q (by omega)]; exact hs _ _ (by omega) (by omega) (by omega)
theorem one_right {v : Int → Int} {a m i : Nat} {D : Nat → Int} (h1 : a ≤ i) (h2 : i ≤ m) (hl : ∀ c, a ≤ c → c < i → ¬ v (D m) < v (D c)) (hr : ∀ c, i ≤ c → c < m → v (D m) < v (D c)) (hs : Srt v a m D) (hc : Crs a m (m + 1) D) : Srt v a (m + 1) (shr D m i) := by
  have e1 : ∀ p, i < p → p ≤ m → shr D m i p = D (p - 1) := fun p g1 g2 => by unfold shr; rw [if_pos ⟨g1, g2⟩]
  have e2 : shr D m i i = D m := by unfold shr; rw [if_neg (by omega), if_pos rfl]
  have e3 : ∀ p, p < i → shr D m i p = D p := fun p g1 => by unfold shr; rw [if_neg (by omega), if_neg (by omega)]
  intro p q g1 g2 g3
  by_cases hp : p < i
  · rw [e3 p hp]
    by_cases hq : q < i
    · rw [e3 q hq]; exact hs _ _ (by omega) (by omega) (by omega)
    · by_cases hq2 : q = i
      · rw [hq2, e2]; exact lt_of_not (hc p m g1 (by omega) (Nat.le_refl _) (by omega)) (hl p g1 hp)
      · rw [e1 q (by omega) (by omega)]; exact hs _ _ (by omega) (by omega) (by omega)
  · by_cases hp2 : p = i
    · rw [hp2, e2, e1 q (by omega) (by omega)]
      exact lt_of_less (hr _ (by omega) (by omega))
    · rw [e1 p (by omega) (by omega), e1 q (by omega) (by omega)]; exact hs _ _ (by omega) (by omega) (by omega)

def SymPost (e : Env) (B a m b : Nat) (D : Nat → Int) (w : World) (en : Ending) (w' : World) : Prop :=
  ∃ D', en = .returned (.tuple #[]) ∧ Pm a b D D' ∧ (e.odd = false → Srt e.val a m D → Srt e.val m b D → Crs a m b D → Srt e.val a b D') ∧ DS w' e B D' ∧ Off (SBl e B) w w'
/-- What a merge asks. -/
def Pre (e : Env) (a m b : Nat) (D : Nat → Int) : Prop := e.odd = false ∧ Srt e.val a m D ∧ Srt e.val m b D ∧ Crs a m b D

/-- The search among the numbers from a + 1 on; among those below m. -/
def BsL (w : World) (e : Env) (B a m b : Nat) (D : Nat → Int) (u v : Value) (wr : World) : Prop := ∃ i j : Nat, a + 1 ≤ i ∧ i ≤ j ∧ j ≤ b ∧ u = .int .i64 i ∧ v = .int .i64 j ∧ (Pre e a m b D → (∀ c, a + 1 ≤ c → c < i → e.val (D c) < e.val (D a)) ∧ (∀ c, j ≤ c → c < b → e.val (D a) ≤ e.val (D c))) ∧ DS wr e B D ∧ Off (SBl e B) w wr
def BsR (w : World) (e : Env) (B a m b : Nat) (D : Nat → Int) (u v : Value) (wr : World) : Prop := ∃ i j : Nat, a ≤ i ∧ i ≤ j ∧ j ≤ m ∧ u = .int .i64 i ∧ v = .int .i64 j ∧ (Pre e a m b D → (∀ c, a ≤ c → c < i → e.val (D c) ≤ e.val (D m)) ∧ (∀ c, j ≤ c → c < m → e.val (D m) < e.val (D c))) ∧ DS wr e B D ∧ Off (SBl e B) w wr

set_option maxRecDepth 100000 in
set_option maxHeartbeats 4000000 in
theorem sym_left {K : Nat} (w : World) (e : Env) (B a m b : Nat) (D : Nat → Int) (h : DS w e B D) (h1 : m < b) (h2 : b ≤ e.n) (h3 : a + 1 ≤ m) (h4 : m ≤ a + 1) :
    Calls Try.prog 16 #[.slice (some ⟨B, 0, none⟩) e.n K, .int .i64 a, .int .i64 m, .int .i64 b, .func (.func 10) #[] #[.pointer (some ⟨e.cF, 0, none⟩)]] w (SymPost e B a m b D w) := by
  have hm := h.env.most
  have hn : 0 < e.n := by omega
  have cfC := cfC
  have d0 : ((m : Int) - (a : Int) == 1) = true := by simp; omega
  have H0 : Hid (DS w e B D ∧ Off (SBl e B) w w) := ⟨h, Off.refl _ _⟩
  clear h
  go_enter Try.func16, Try.ntmps16
  go_wp2
  go_loopw [10, 11] (fun u v wr => BsL w e B a m b D u v wr) (fun u v _ => (intOf v).toNat - (intOf u).toNat)
  case atStart => exact ⟨m, b, by omega, by omega, by omega, rfl, rfl, fun _ => ⟨fun c g1 g2 => by omega, fun c g1 g2 => by omega⟩, H0.out.1, H0.out.2⟩
  case round =>
    obtain ⟨i, j, i1, i2, i3, rfl, rfl, hi, hd, ho⟩ := hrel
    clear H0
    by_cases hlt : i < j
    · have HI := Lib.hid hi
      have HD := Lib.hid hd
      have HO := Lib.hid ho
      clear hi hd ho
      obtain ⟨h, hh⟩ : ∃ h : Nat, h = (i + j) / 2 := ⟨_, rfl⟩
      have q : ((i : Int) + (j : Int)) / 2 = (h : Int) := by omega
      have hi1 : i ≤ h := by omega
      have hi2 : h < j := by omega
      clear hh
      go_upto_region 5 with (fail)
      clear q
      have c0 := HD.out.dat h (by omega)
      have c1 := HD.out.dat a (by omega)
      obtain ⟨x, hx, hx1⟩ := HD.out.rng h (by omega)
      obtain ⟨y, hy, hy1⟩ := HD.out.rng a (by omega)
      rw [hx] at c0
      rw [hy] at c1
      have k0 : (0 : Int) ≤ (h : Int) := by omega
      have k1 : (h : Int) < (e.n : Int) := by omega
      have k2 : (0 : Int) ≤ (a : Int) := by omega
      have k3 : (a : Int) < (e.n : Int) := by omega
      have HC := Lib.hid (cmp_any wr.drew e x y (HD.out.env.up (Below.refl _ _).drew) hx1 hy1)
      have HXY : Hid (D h = x ∧ D a = y) := ⟨hx, hy⟩
      clear hx hy
      go_region_held3 (fun w' => w'.cell? ⟨B, h, none⟩ = some (.int .i64 x) ∧ w'.cell? ⟨B, a, none⟩ = some (.int .i64 y))
        (first | exact ⟨K0, K1⟩ | go_keep)
        (first | (go_at_call 10; refine HC.out.mono ?_; rintro en w1 ⟨v, rfl, hv, he1, ho1⟩; have K0 := (ho1.cell (p := ⟨B, h, none⟩) (lt_of_cell c0) HD.out.ne.2).trans c0; have K1 := (ho1.cell (p := ⟨B, a, none⟩) (lt_of_cell c1) HD.out.ne.2).trans c1; have HV := Lib.hid hv; have HE1 := Lib.hid he1; have HO1 := Lib.hid ho1; clear hv he1 ho1))
      have HD1 : Hid (DS w1 e B D ∧ Off (SBl e B) w w1) := ⟨HD.out.drew.cmp HE1.out HO1.out hn, off_cmp HO.out.drew HO1.out⟩
      have HV2 : Hid (e.odd = false → (v < 0 ↔ e.val (D h) < e.val (D a))) := fun ho => by rw [HXY.out.1, HXY.out.2]; exact HV.out ho
      clear HV HE1 HO1 c0 c1 HC K0 K1 HD HO k0 k1 k2 k3
      by_cases hv : v < 0
      · have HX : Hid (∀ u, u = .int .i64 (h + 1 : Nat) → BsL w e B a m b D u (.int .i64 j) w1) := by
          rintro u rfl
          refine ⟨h + 1, j, by omega, by omega, by omega, rfl, rfl, fun hp => ⟨fun c g1 g2 => ?_, (HI.out hp).2⟩, HD1.out.1, HD1.out.2⟩
          have hl := (HV2.out hp.1).1 hv
          by_cases hc : c = h
          · rw [hc]; exact hl
          · have := (hp.2.2.1 c h (by omega) (by omega) (by omega)).le
            omega
        clear HI HD1 HV2
        go_wp2
        go_roundw
        case rel => first | exact HX.out _ (by go_num) | ((repeat apply Exists.intro); exact ⟨HX.out _ (by go_num), rfl⟩)
        case measure => simp [intOf]; omega
      · have HX : Hid (BsL w e B a m b D (.int .i64 i) (.int .i64 h) w1) := by
          refine ⟨i, h, by omega, by omega, by omega, rfl, rfl, fun hp => ⟨(HI.out hp).1, fun c g1 g2 => ?_⟩, HD1.out.1, HD1.out.2⟩
          have hl := Int.not_lt.1 (fun g => hv ((HV2.out hp.1).2 g))
          by_cases hc : c = h
          · rw [hc]; exact hl
          · have := (hp.2.2.1 h c (by omega) (by omega) g2).le
            omega
        clear HI HD1 HV2
        go_wp2
        go_roundw
        case rel => first | exact HX.out | ((repeat apply Exists.intro); exact ⟨HX.out, rfl⟩)
        case measure => simp [intOf]; omega
    · obtain rfl : i = j := by omega
      have H1 : Hid ((Pre e a m b D → Srt e.val a b (shl D a (i - 1))) ∧ DS wr e B (shl D a a) ∧ Off (SBl e B) w wr) := ⟨fun hp => (by have em : m = a + 1 := (by omega); subst em; exact one_left i1 i3 (hi hp).1 (fun c g1 g2 => Int.not_lt.2 ((hi hp).2 c g1 g2)) hp.2.2.1 hp.2.2.2), by rw [shl_zero]; exact hd, ho⟩
      clear hi hd ho
      obtain ⟨wo, rfl⟩ : ∃ wo : World, wo = wr := ⟨_, rfl⟩
      have k9 : (i : Int) - 1 = ((i - 1 : Nat) : Int) := by omega
      go_wp2
      go_loopw [13] (fun u wr => ∃ k : Nat, a ≤ k ∧ k ≤ i - 1 ∧ u = .int .i64 k ∧ DS wr e B (shl D a k) ∧ Pm a b D (shl D a k) ∧ Off (SBl e B) w wr) (fun u _ => i - (intOf u).toNat)
      case atStart => exact ⟨a, by omega, by omega, rfl, H1.out.2.1, by rw [shl_zero]; exact Pm.refl _ _ _, H1.out.2.2⟩
      case round =>
        obtain ⟨k, g1, g2, rfl, hd, hp, ho⟩ := hrel
        by_cases hk : k < i - 1
        · have c0 := hd.dat k (by omega)
          have c1 := hd.dat (k + 1) (by omega)
          have z0 := hd.fz k
          have z1 := hd.fz (k + 1)
          have j0 : (0 : Int) ≤ (k : Int) := by omega
          have j1 : (k : Int) < (e.n : Int) := by omega
          have j2 : (0 : Int) ≤ (k : Int) + 1 := by omega
          have j3 : (k : Int) + 1 < (e.n : Int) := by omega
          have HX : Hid (∀ W, W = (wr.drew.setCell ⟨B, k, none⟩ (.int .i64 (shl D a k (k + 1)))).setCell ⟨B, k + 1, none⟩ (.int .i64 (shl D a k k)) → DS W e B (shl D a (k + 1)) ∧ Pm a b D (shl D a (k + 1)) ∧ Off (SBl e B) w W) := by
            rintro W rfl
            rw [← shl_succ D a k g1]
            exact ⟨hd.drew.swap (by omega) (by omega) (by omega), hp.trans (Pm.swp _ (by omega) (by omega) (by omega) (by omega)), (ho.drew.setCell (.inl rfl) _).setCell (.inl rfl) _⟩
          clear hd ho hp
          go_wp2
          go_region
          go_wp2
          go_roundw
          case rel => exact ⟨k + 1, by omega, by omega, by go_num, (HX.out _ rfl).1, (HX.out _ rfl).2.1, (HX.out _ rfl).2.2⟩
          case measure => simp [intOf]; omega
        · obtain rfl : k = i - 1 := by omega
          have HX : Hid (DS wr e B (shl D a (i - 1)) ∧ Pm a b D (shl D a (i - 1)) ∧ Off (SBl e B) w wr) := ⟨hd, hp, ho⟩
          clear hd hp ho
          go_wp2
          go_end0
          exact ⟨_, rfl, HX.out.2.1, fun q1 q2 q3 q4 => H1.out.1 ⟨q1, q2, q3, q4⟩, HX.out.1, HX.out.2.2⟩

set_option maxRecDepth 100000 in
set_option maxHeartbeats 4000000 in
theorem sym_right {K : Nat} (w : World) (e : Env) (B a m b : Nat) (D : Nat → Int) (h : DS w e B D) (h1 : a + 1 < m) (h2 : b ≤ e.n) (h3 : m + 1 ≤ b) (h4 : b ≤ m + 1) :
    Calls Try.prog 16 #[.slice (some ⟨B, 0, none⟩) e.n K, .int .i64 a, .int .i64 m, .int .i64 b, .func (.func 10) #[] #[.pointer (some ⟨e.cF, 0, none⟩)]] w (SymPost e B a m b D w) := by
  have hm := h.env.most
  have hn : 0 < e.n := by omega
  have cfC := cfC
  have d1 : ((m : Int) - (a : Int) == 1) = false := by simp; omega
  have d2 : ((b : Int) - (m : Int) == 1) = true := by simp; omega
  have H0 : Hid (DS w e B D ∧ Off (SBl e B) w w) := ⟨h, Off.refl _ _⟩
  clear h
  go_enter Try.func16, Try.ntmps16
  go_wp2
  go_loopw [14, 15] (fun u v wr => BsR w e B a m b D u v wr) (fun u v _ => (intOf v).toNat - (intOf u).toNat)
  case atStart => exact ⟨a, m, by omega, by omega, by omega, rfl, rfl, fun _ => ⟨fun c g1 g2 => by omega, fun c g1 g2 => by omega⟩, H0.out.1, H0.out.2⟩
  case round =>
    obtain ⟨i, j, i1, i2, i3, rfl, rfl, hi, hd, ho⟩ := hrel
    clear H0
    by_cases hlt : i < j
    · have HI := Lib.hid hi
      have HD := Lib.hid hd
      have HO := Lib.hid ho
      clear hi hd ho
      obtain ⟨h, hh⟩ : ∃ h : Nat, h = (i + j) / 2 := ⟨_, rfl⟩
      have q : ((i : Int) + (j : Int)) / 2 = (h : Int) := by omega
      have hi1 : i ≤ h := by omega
      have hi2 : h < j := by omega
      clear hh
      go_upto_region 17 with (fail)
      clear q
      have c0 := HD.out.dat h (by omega)
      have c1 := HD.out.dat m (by omega)
      obtain ⟨x, hx, hx1⟩ := HD.out.rng h (by omega)
      obtain ⟨y, hy, hy1⟩ := HD.out.rng m (by omega)
      rw [hx] at c0
      rw [hy] at c1
      have k0 : (0 : Int) ≤ (h : Int) := by omega
      have k1 : (h : Int) < (e.n : Int) := by omega
      have k2 : (0 : Int) ≤ (m : Int) := by omega
      have k3 : (m : Int) < (e.n : Int) := by omega
      have HC := Lib.hid (cmp_any wr.drew e y x (HD.out.env.up (Below.refl _ _).drew) hy1 hx1)
      have HXY : Hid (D h = x ∧ D m = y) := ⟨hx, hy⟩
      clear hx hy
      go_region_held3 (fun w' => w'.cell? ⟨B, h, none⟩ = some (.int .i64 x) ∧ w'.cell? ⟨B, m, none⟩ = some (.int .i64 y))
        (first | exact ⟨K0, K1⟩ | go_keep)
        (first | (go_at_call 10; refine HC.out.mono ?_; rintro en w1 ⟨v, rfl, hv, he1, ho1⟩; have K0 := (ho1.cell (p := ⟨B, h, none⟩) (lt_of_cell c0) HD.out.ne.2).trans c0; have K1 := (ho1.cell (p := ⟨B, m, none⟩) (lt_of_cell c1) HD.out.ne.2).trans c1; have HV := Lib.hid hv; have HE1 := Lib.hid he1; have HO1 := Lib.hid ho1; clear hv he1 ho1))
      have HD1 : Hid (DS w1 e B D ∧ Off (SBl e B) w w1) := ⟨HD.out.drew.cmp HE1.out HO1.out hn, off_cmp HO.out.drew HO1.out⟩
      have HV2 : Hid (e.odd = false → (v < 0 ↔ e.val (D m) < e.val (D h))) := fun ho => by rw [HXY.out.1, HXY.out.2]; exact HV.out ho
      clear HV HE1 HO1 c0 c1 HC K0 K1 HD HO k0 k1 k2 k3
      by_cases hv : v < 0
      · have HX : Hid (BsR w e B a m b D (.int .i64 i) (.int .i64 h) w1) := by
          refine ⟨i, h, by omega, by omega, by omega, rfl, rfl, fun hp => ⟨(HI.out hp).1, fun c g1 g2 => ?_⟩, HD1.out.1, HD1.out.2⟩
          have hl := (HV2.out hp.1).1 hv
          by_cases hc : c = h
          · rw [hc]; exact hl
          · have := (hp.2.1 h c (by omega) (by omega) g2).le
            omega
        clear HI HD1 HV2
        go_wp2
        · exfalso
          have q : (!decide (v < 0)) = true := by assumption
          simp at q
          omega
        · go_roundw
          case rel => first | exact HX.out | ((repeat apply Exists.intro); exact ⟨HX.out, rfl⟩)
          case measure => simp [intOf]; omega
      · have HX : Hid (∀ u, u = .int .i64 (h + 1 : Nat) → BsR w e B a m b D u (.int .i64 j) w1) := by
          rintro u rfl
          refine ⟨h + 1, j, by omega, by omega, by omega, rfl, rfl, fun hp => ⟨fun c g1 g2 => ?_, (HI.out hp).2⟩, HD1.out.1, HD1.out.2⟩
          have hl := Int.not_lt.1 (fun g => hv ((HV2.out hp.1).2 g))
          by_cases hc : c = h
          · rw [hc]; exact hl
          · have := (hp.2.1 c h g1 (by omega) (by omega)).le
            omega
        clear HI HD1 HV2
        go_wp2
        · go_roundw
          case rel => first | exact HX.out _ (by go_num) | ((repeat apply Exists.intro); exact ⟨HX.out _ (by go_num), rfl⟩)
          case measure => simp [intOf]; omega
        · exfalso
          have q : (!decide (v < 0)) = false := by assumption
          simp at q
          omega
    · obtain rfl : i = j := by omega
      have H1 : Hid ((Pre e a m b D → Srt e.val a b (shr D m i)) ∧ DS wr e B (shr D m m) ∧ Off (SBl e B) w wr) := ⟨fun hp => (by have em : b = m + 1 := (by omega); subst em; exact one_right i1 i3 (fun c g1 g2 => Int.not_lt.2 ((hi hp).1 c g1 g2)) (hi hp).2 hp.2.1 hp.2.2.2), by rw [shr_top]; exact hd, ho⟩
      clear hi hd ho
      obtain ⟨wo, rfl⟩ : ∃ wo : World, wo = wr := ⟨_, rfl⟩
      go_wp2
      go_loopw [17] (fun u wr => ∃ k : Nat, i ≤ k ∧ k ≤ m ∧ u = .int .i64 k ∧ DS wr e B (shr D m k) ∧ Pm a b D (shr D m k) ∧ Off (SBl e B) w wr) (fun u _ => (intOf u).toNat)
      case atStart => exact ⟨m, by omega, by omega, rfl, H1.out.2.1, by rw [shr_top]; exact Pm.refl _ _ _, H1.out.2.2⟩
      case round =>
        obtain ⟨k, g1, g2, rfl, hd, hp, ho⟩ := hrel
        by_cases hk : i < k
        · have c0 := hd.dat k (by omega)
          have c1 := hd.dat (k - 1) (by omega)
          have z0 := hd.fz k
          have z1 := hd.fz (k - 1)
          have j0 : (0 : Int) ≤ (k : Int) := by omega
          have j1 : (k : Int) < (e.n : Int) := by omega
          have j2 : (0 : Int) ≤ (k : Int) - 1 := by omega
          have j3 : (k : Int) - 1 < (e.n : Int) := by omega
          have HX : Hid (∀ W, W = (wr.drew.setCell ⟨B, k, none⟩ (.int .i64 (shr D m k (k - 1)))).setCell ⟨B, k - 1, none⟩ (.int .i64 (shr D m k k)) → DS W e B (shr D m (k - 1)) ∧ Pm a b D (shr D m (k - 1)) ∧ Off (SBl e B) w W) := by
            rintro W rfl
            have e1 : swp (shr D m k) k (k - 1) = shr D m (k - 1) := by
              have e2 := shr_step D m (k - 1) (by omega)
              rwa [show k - 1 + 1 = k by omega] at e2
            rw [← e1]
            exact ⟨hd.drew.swap (by omega) (by omega) (by omega), hp.trans (Pm.swp _ (by omega) (by omega) (by omega) (by omega)), (ho.drew.setCell (.inl rfl) _).setCell (.inl rfl) _⟩
          clear hd ho hp
          go_wp2
          go_region
          go_wp2
          go_roundw
          case rel => exact ⟨k - 1, by omega, by omega, by go_num, (HX.out _ rfl).1, (HX.out _ rfl).2.1, (HX.out _ rfl).2.2⟩
          case measure => simp [intOf]; omega
        · obtain rfl : k = i := by omega
          have HX : Hid (DS wr e B (shr D m k) ∧ Pm a b D (shr D m k) ∧ Off (SBl e B) w wr) := ⟨hd, hp, ho⟩
          clear hd hp ho
          go_wp2
          go_end0
          exact ⟨_, rfl, HX.out.2.1, fun q1 q2 q3 q4 => H1.out.1 ⟨q1, q2, q3, q4⟩, HX.out.1, HX.out.2.2⟩
end Go.Proofs.Yteckbhpjhohanaa
