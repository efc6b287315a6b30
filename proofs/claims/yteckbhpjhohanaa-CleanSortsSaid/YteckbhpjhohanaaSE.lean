/- stableCmpFunc. -/
import Derived.Test.YteckbhpjhohanaaSD
namespace Go.Proofs.Yteckbhpjhohanaa
open Go.RowKit
set_option linter.unusedVariables false
set_option linter.unusedSimpArgs false

/-- What is kept: the numbers are shuffled; where less is an order they are in the groups g. -/
def StK (w : World) (e : Env) (B : Nat) (D : Nat → Int) (g : Nat → Nat) (D1 : Nat → Int) (wr : World) : Prop :=
  (Pm 0 e.n D D1 ∧ (e.odd = false → Rise 0 e.n D → Grp e.val g e.n D1)) ∧ DS wr e B D1 ∧ Off (SBl e B) w wr
/-- While blocks of 20 are put in order. -/
def St1 (w : World) (e : Env) (B : Nat) (D : Nat → Int) (u v : Value) (wr : World) : Prop :=
  ∃ (a b : Nat) (D1 : Nat → Int), a % 20 = 0 ∧ a + 20 ≤ b ∧ b ≤ a + 20 ∧ a ≤ e.n ∧ u = .int .i64 a ∧ v = .int .i64 b ∧ StK w e B D (g1 20 a) D1 wr
/-- Blocks of s are in order. -/
def St2 (w : World) (e : Env) (B : Nat) (D : Nat → Int) (u v x : Value) (wr : World) : Prop :=
  ∃ (s : Nat) (y z : Int) (D1 : Nat → Int), (Blk s ∨ s = 320) ∧ u = .int .i64 s ∧ v = .int .i64 y ∧ x = .int .i64 z ∧ StK w e B D (g2 s 0) D1 wr
/-- While blocks of s are merged by twos. -/
def St3 (w : World) (e : Env) (B : Nat) (D : Nat → Int) (s : Nat) (u v : Value) (wr : World) : Prop :=
  ∃ (a b : Nat) (D1 : Nat → Int), a % (2 * s) = 0 ∧ a + 2 * s ≤ b ∧ b ≤ a + 2 * s ∧ a ≤ e.n ∧ u = .int .i64 a ∧ v = .int .i64 b ∧ StK w e B D (g2 s a) D1 wr

theorem StK.ins {w wr w1 : World} {e : Env} {B a b : Nat} {D D1 : Nat → Int} (h : StK w e B D (g1 20 a) D1 wr) (ha : a % 20 = 0) (hm : e.n ≤ 200) (h1 : a ≤ b) (h2 : b ≤ a + 20) (hb : b ≤ e.n) (he : b = a + 20 ∨ b = e.n) {D2 : Nat → Int} (p2 : Pm a b D1 D2) (s2 : e.odd = false → Rise a b D1 → Srt e.val a b D2) (hd : DS w1 e B D2) (ho : Off (SBl e B) wr w1) :
    StK w e B D (g1 20 b) D2 w1 :=
  ⟨⟨h.1.1.trans (p2.mono (Nat.zero_le _) hb), fun o r => grp1_step (h.1.2 o r) ha hm b h2 h1 hb he p2 (s2 o (grp1_rise (h.1.2 o r) hb))⟩, hd, h.2.2.trans ho⟩
theorem StK.sym {w wr w1 : World} {e : Env} {B a b s : Nat} {D D1 : Nat → Int} (hs : Blk s) (h : StK w e B D (g2 s a) D1 wr) (ha : a % (2 * s) = 0) (hm : e.n ≤ 200) (h1 : a + s < b) (h2 : b ≤ a + 2 * s) (hb : b ≤ e.n) (he : b = a + 2 * s ∨ b = e.n) {D2 : Nat → Int} (p2 : Pm a b D1 D2) (s2 : e.odd = false → Srt e.val a (a + s) D1 → Srt e.val (a + s) b D1 → Crs a (a + s) b D1 → Srt e.val a b D2) (hd : DS w1 e B D2) (ho : Off (SBl e B) wr w1) :
    StK w e B D (g2 s b) D2 w1 :=
  ⟨⟨h.1.1.trans (p2.mono (Nat.zero_le _) hb), fun o r => by
    obtain ⟨q1, q2, q3⟩ := grp2_pre hs (h.1.2 o r) ha hm hb h2 h1
    exact grp2_step hs (h.1.2 o r) ha hm b h2 (by omega) hb he p2 (s2 o q1 q2 q3)⟩, hd, h.2.2.trans ho⟩
theorem Blk.next {s : Nat} (h : Blk s) : Blk (2 * s) ∨ 2 * s = 320 := by unfold Blk at *; omega

set_option maxRecDepth 100000 in
set_option maxHeartbeats 8000000 in
theorem stable_any {K : Nat} (w : World) (e : Env) (B : Nat) (D : Nat → Int) (h : DS w e B D) (hn : 0 < e.n) :
    Calls Try.prog 12 #[.slice (some ⟨B, 0, none⟩) e.n K, .int .i64 e.n, .func (.func 10) #[] #[.pointer (some ⟨e.cF, 0, none⟩)]] w (InsPost e B 0 e.n D w) := by
  have hm := h.env.most
  have H0 : Hid (StK w e B D (g1 20 0) D w) := ⟨⟨Pm.refl _ _ _, fun _ hr => grp_rise hr⟩, h, Off.refl _ _⟩
  clear h
  go_enter Try.func12, Try.ntmps12
  go_wp2
  go_loopw [7, 8] (fun u v wr => St1 w e B D u v wr) (fun _ v _ => e.n + 20 - (intOf v).toNat)
  case atStart => exact ⟨0, 20, D, rfl, Nat.le_refl _, Nat.le_refl _, Nat.zero_le _, rfl, rfl, H0.out⟩
  case round =>
    obtain ⟨a, b, D1, ha, h1, h2, han, rfl, rfl, hk⟩ := hrel
    clear H0
    have HK := Lib.hid hk
    have HA := Lib.hid ha
    clear hk ha
    by_cases hlt : b ≤ e.n
    · go_wp2_with fail
      refine (insertion_any (K := K) _ e B a b D1 HK.out.2.1 (by omega) hlt hn).mono ?_
      rintro _ w1 ⟨D2, rfl, p2, s2, hd2, ho2⟩
      have HX : Hid (∀ y, y = .int .i64 (b + 20 : Nat) → St1 w e B D (.int .i64 b) y w1) := by
        rintro y rfl
        have := HA.out
        exact ⟨b, b + 20, D2, by omega, by omega, by omega, by omega, rfl, rfl, HK.out.ins HA.out hm (by omega) h2 hlt (.inl (by omega)) p2 s2 hd2 ho2⟩
      clear HK p2 s2 hd2 ho2 HA
      go_wp2
      go_roundw
      case rel => first | exact HX.out _ (by go_num) | ((repeat apply Exists.intro); exact ⟨HX.out _ (by go_num), rfl⟩)
      case measure => simp [intOf]; omega
    · go_wp2_with fail
      refine (insertion_any (K := K) _ e B a e.n D1 HK.out.2.1 (by omega) (Nat.le_refl _) hn).mono ?_
      rintro _ w1 ⟨D2, rfl, p2, s2, hd2, ho2⟩
      have HX : Hid (StK w e B D (g2 20 0) D2 w1) := by
        have g := HK.out.ins HA.out hm han (by omega) (Nat.le_refl _) (.inr rfl) p2 s2 hd2 ho2
        exact ⟨⟨g.1.1, fun o r => grp_12 (g.1.2 o r)⟩, g.2⟩
      clear HK p2 s2 hd2 ho2 HA
      go_wp2
      go_loopw [6, 7, 8] (fun u v x wr => St2 w e B D u v x wr) (fun u _ _ _ => 400 - (intOf u).toNat)
      case atStart => exact ⟨20, _, _, D2, .inl (.inl rfl), rfl, rfl, rfl, HX.out⟩
      case round =>
        obtain ⟨s, y, z, D3, hs, rfl, rfl, rfl, hk⟩ := hrel
        clear HX
        by_cases hsn : s < e.n
        · have hb : Blk s := hs.elim id fun x => by omega
          have b1 : 20 ≤ s := by unfold Blk at hb; omega
          have b2 : s ≤ 160 := by unfold Blk at hb; omega
          have HB := Lib.hid hb
          have HK := Lib.hid hk
          clear hs hb hk
          obtain ⟨wo, rfl⟩ : ∃ wo : World, wo = wr := ⟨_, rfl⟩
          go_wp2
          go_loopw [7, 8] (fun u v wr => St3 w e B D s u v wr) (fun _ v _ => e.n + 400 - (intOf v).toNat)
          case atStart => exact ⟨0, 2 * s, D3, by simp, by omega, by omega, by omega, rfl, by go_num, HK.out⟩
          case round =>
            obtain ⟨p, q, D4, hp, h3, h4, hpn, rfl, rfl, hk4⟩ := hrel
            clear HK
            have HK := Lib.hid hk4
            have HP := Lib.hid hp
            clear hk4 hp
            obtain ⟨m, hmm⟩ : ∃ m : Nat, m = p + s := ⟨_, rfl⟩
            have k1 : (p : Int) + (s : Int) = (m : Int) := by omega
            have k2 : p + s ≤ m := by omega
            have k3 : m ≤ p + s := by omega
            have HM := Lib.hid hmm
            clear hmm
            by_cases hqn : q ≤ e.n
            · go_wp2_with fail
              clear k1
              refine (sym_any (K := K) (q - p) _ e B p m q D4 (Nat.le_refl _) HK.out.2.1 (by omega) (by omega) hqn).mono ?_
              rintro _ w2 ⟨D5, rfl, p2, s2, hd2, ho2⟩
              have HX : Hid (∀ y, y = .int .i64 (q + 2 * s : Nat) → St3 w e B D s (.int .i64 q) y w2) := by
                rintro y rfl
                have hq : q = p + 2 * s := by omega
                refine ⟨q, q + 2 * s, D5, ?_, by omega, by omega, by omega, rfl, rfl, HK.out.sym HB.out HP.out hm (by omega) h4 hqn (.inl hq) p2 (by rw [← HM.out]; exact s2) hd2 ho2⟩
                rw [hq, Nat.add_mod_right]
                exact HP.out
              clear HK p2 s2 hd2 ho2 HP HM
              go_wp2
              go_roundw
              case rel => first | exact HX.out _ (by go_num) | ((repeat apply Exists.intro); exact ⟨HX.out _ (by go_num), rfl⟩)
              case measure => simp [intOf]; omega
            · by_cases hmn : m < e.n
              · go_wp2_with fail
                clear k1
                refine (sym_any (K := K) (e.n - p) _ e B p m e.n D4 (Nat.le_refl _) HK.out.2.1 (by omega) hmn (Nat.le_refl _)).mono ?_
                rintro _ w2 ⟨D5, rfl, p2, s2, hd2, ho2⟩
                have HX : Hid (∀ y, y = .int .i64 (2 * s : Nat) → St2 w e B D y (.int .i64 p) (.int .i64 q) w2) := by
                  rintro y rfl
                  have g := HK.out.sym HB.out HP.out hm (by omega) (by omega) (Nat.le_refl _) (.inr rfl) p2 (by rw [← HM.out]; exact s2) hd2 ho2
                  exact ⟨2 * s, p, q, D5, HB.out.next, rfl, rfl, rfl, ⟨g.1.1, fun o r => grp2_next (g.1.2 o r)⟩, g.2⟩
                clear HK p2 s2 hd2 ho2 HP HM
                go_wp2
                go_roundw
                case rel => first | exact HX.out _ (by go_num) | ((repeat apply Exists.intro); exact ⟨HX.out _ (by go_num), rfl⟩)
                case measure => simp [intOf]; omega
              · have HX : Hid (∀ y, y = .int .i64 (2 * s : Nat) → St2 w e B D y (.int .i64 p) (.int .i64 q) wr) := by
                  rintro y rfl
                  exact ⟨2 * s, p, q, D4, HB.out.next, rfl, rfl, rfl, ⟨HK.out.1.1, fun o r => grp2_next (grp2_end HB.out (HK.out.1.2 o r) HP.out hm (by omega) hpn)⟩, HK.out.2⟩
                clear HK HP HM
                go_wp2
                go_roundw
                case rel => first | exact HX.out _ (by go_num) | ((repeat apply Exists.intro); exact ⟨HX.out _ (by go_num), rfl⟩)
                case measure => simp [intOf]; omega
        · have HX : Hid (InsPost e B 0 e.n D w (.returned (.tuple #[])) wr) := ⟨D3, rfl, hk.1.1, fun o r => grp2_srt (hk.1.2 o r) (by omega), hk.2.1, hk.2.2⟩
          clear hk hs
          go_wp2
          go_end0
          exact HX.out
end Go.Proofs.Yteckbhpjhohanaa
