/- The walk of frames.sweep. -/
import Derived.Test.YtmipngefpedfpaaFA
import Derived.WalkMore
namespace Go.Proofs.Ytmipngefpedfpaa
open Go.RowKit Go.Maps
set_option linter.unusedVariables false
set_option linter.unusedSimpArgs false

def clr (F : Nat → Fr) (k : Nat) : Nat → Fr := fun i => if i = k then { F i with ref := false } else F i

/-- The hand goes on for at most d frames: which one it gives up, and how it leaves the frames. -/
def sw (n : Nat) : Nat → Nat → (Nat → Fr) → Int × (Nat → Fr)
  | 0, _, F => (-1, F)
  | d + 1, k, F => if !(F k).used || decide (0 < (F k).pins) then sw n d ((k + 1) % n) F else if (F k).ref then sw n d ((k + 1) % n) (clr F k) else ((k : Int), F)

theorem FrS.clr {w : World} {B n k : Nat} {F : Nat → Fr} (h : FrS w B n F) (hk : k < n) : FrS (w.setCell ⟨B, k * 5 + 2, none⟩ (.bool false)) B n (clr F k) := by
  intro i hi
  have hi5 := h i hi
  have hne : ∀ r, r < 5 → (i = k → r ≠ 2) → (⟨B, k * 5 + 2, none⟩ : Addr) ≠ ⟨B, i * 5 + r, none⟩ := by
    intro r hr h1 he
    injection he with _ he
    by_cases hik : i = k
    · subst hik; exact h1 rfl (by omega)
    · omega
  unfold Go.Proofs.Ytmipngefpedfpaa.clr
  by_cases hik : i = k
  · subst hik
    rw [if_pos rfl]
    exact ⟨(World.cell?_setCell_other _ _ _ _ (hne 0 (by omega) (by omega))).trans hi5.c0, (World.cell?_setCell_other _ _ _ _ (hne 1 (by omega) (by omega))).trans hi5.c1, World.cell?_setCell_same _ _ _ hi5.c2, (World.cell?_setCell_other _ _ _ _ (hne 3 (by omega) (by omega))).trans hi5.c3, (World.cell?_setCell_other _ _ _ _ (hne 4 (by omega) (by omega))).trans hi5.c4⟩
  · rw [if_neg hik]
    exact ⟨(World.cell?_setCell_other _ _ _ _ (hne 0 (by omega) (by omega))).trans hi5.c0, (World.cell?_setCell_other _ _ _ _ (hne 1 (by omega) (by omega))).trans hi5.c1, (World.cell?_setCell_other _ _ _ _ (hne 2 (by omega) (fun e => absurd e hik))).trans hi5.c2, (World.cell?_setCell_other _ _ _ _ (hne 3 (by omega) (by omega))).trans hi5.c3, (World.cell?_setCell_other _ _ _ _ (hne 4 (by omega) (by omega))).trans hi5.c4⟩

theorem sw_skip {n d k : Nat} {F : Nat → Fr} (h : (!(F k).used || decide (0 < (F k).pins)) = true) : sw n (d + 1) k F = sw n d ((k + 1) % n) F := by rw [sw, if_pos h]
theorem sw_clr {n d k : Nat} {F : Nat → Fr} (h : (!(F k).used || decide (0 < (F k).pins)) = false) (h2 : (F k).ref = true) : sw n (d + 1) k F = sw n d ((k + 1) % n) (clr F k) := by rw [sw, if_neg (by rw [h]; exact Bool.false_ne_true), if_pos h2]
theorem sw_found {n d k : Nat} {F : Nat → Fr} (h : (!(F k).used || decide (0 < (F k).pins)) = false) (h2 : (F k).ref = false) : sw n (d + 1) k F = ((k : Int), F) := by rw [sw, if_neg (by rw [h]; exact Bool.false_ne_true), if_neg (by rw [h2]; exact Bool.false_ne_true)]

structure SwAt (w : World) (B n h : Nat) (F : Nat → Fr) (k r : Nat) (F' : Nat → Fr) (wr : World) : Prop where
  le : k ≤ 2 * n + 1
  lt : r < n
  run : sw n (2 * n + 1 - k) r F' = sw n (2 * n + 1) h F
  fr : FrS wr B n F'
  fz : ∀ j, wr.frozen? ⟨B, j, none⟩ = false
  off : Off (· = B) w wr

def SwPost (n : Nat) (h : Nat) (F : Nat → Fr) (B : Nat) (w : World) (e : Ending) (w' : World) : Prop := e = .returned (.int .i64 (sw n (2 * n + 1) h F).1) ∧ FrS w' B n (sw n (2 * n + 1) h F).2 ∧ (∀ j, w'.frozen? ⟨B, j, none⟩ = false) ∧ Off (· = B) w w'

set_option maxHeartbeats 1000000 in
theorem sweep_any {K : Nat} (w : World) (B n h : Nat) (F : Nat → Fr) (hn : n ≤ 4096) (hp : 0 < n) (hh : h < n) (hF : FrS w B n F) (hz : ∀ j, w.frozen? ⟨B, j, none⟩ = false) :
    Calls Try.prog 47 #[.slice (some ⟨B, 0, none⟩) n K, .int .i64 h] w (SwPost n h F B w) := by
  have H0 : Hid (SwAt w B n h F 0 h F w) := ⟨by omega, hh, rfl, hF, hz, Off.refl _ _⟩
  clear hF hz
  go_enter Try.func47, Try.ntmps47
  go_wp2
  go_step3
  go_wp2
  go_step3
  go_wp2
  go_loopw [5, 13] (fun a i wr => ∃ (k r : Nat) (F' : Nat → Fr), i = .int .i64 k ∧ a = .int .i64 r ∧ SwAt w B n h F k r F' wr) (fun _ i _ => 2 * n + 1 - (intOf i).toNat)
  case atStart => exact ⟨0, h, F, rfl, rfl, H0.out⟩
  case round =>
    obtain ⟨k, r, F', rfl, rfl, hs⟩ := hrel
    have hk := hs.le
    have hr := hs.lt
    have HS := Lib.hid hs
    clear H0 hs
    by_cases hlt : k < 2 * n + 1
    · obtain ⟨c0, c1, c2, c3, c4⟩ := HS.out.fr r hr
      have z2 := HS.out.fz (r * 5 + 2)
      have hm : ((r : Int) + 1) % (n : Int) = (((r + 1) % n : Nat) : Int) := by rw [Int.natCast_emod]; simp
      have hml : (r + 1) % n < n := Nat.mod_lt _ hp
      have HM := Lib.hid hm
      clear hm
      have hd : 2 * n + 1 - k = (2 * n + 1 - (k + 1)) + 1 := by omega
      have HD := Lib.hid hd
      clear hd
      cases hu : (F' r).used
      · have HK : Hid (sw n (2 * n + 1 - (k + 1)) ((r + 1) % n) F' = sw n (2 * n + 1) h F) := by
          have := HS.out.run
          rw [HD.out, sw_skip (by simp [hu])] at this
          exact this
        go_wp2
        go_roundw
        case rel => exact ⟨k + 1, (r + 1) % n, F', by go_num, by rw [HM.out], ⟨by omega, hml, HK.out, HS.out.fr, HS.out.fz, HS.out.off⟩⟩
        case measure => simp [intOf]; omega
      · by_cases hpin : 0 < (F' r).pins
        · have HK : Hid (sw n (2 * n + 1 - (k + 1)) ((r + 1) % n) F' = sw n (2 * n + 1) h F) := by
            have := HS.out.run
            rw [HD.out, sw_skip (by simp [hu, hpin])] at this
            exact this
          go_wp2
          go_roundw
          case rel => exact ⟨k + 1, (r + 1) % n, F', by go_num, by rw [HM.out], ⟨by omega, hml, HK.out, HS.out.fr, HS.out.fz, HS.out.off⟩⟩
          case measure => simp [intOf]; omega
        · cases hrf : (F' r).ref
          · have HK : Hid (sw n (2 * n + 1) h F = ((r : Int), F')) := by
              have := HS.out.run
              rw [HD.out, sw_found (by simp [hu]; omega) hrf] at this
              exact this.symm
            go_wp2
            try rw [Exit.noGoto_ret]
            go_ret
            exact ⟨by rw [HK.out]; rfl, by rw [HK.out]; exact HS.out.fr, HS.out.fz, HS.out.off⟩
          · have HK : Hid (sw n (2 * n + 1 - (k + 1)) ((r + 1) % n) (clr F' r) = sw n (2 * n + 1) h F) := by
              have := HS.out.run
              rw [HD.out, sw_clr (by simp [hu]; omega) hrf] at this
              exact this
            go_wp2
            go_roundw
            case rel => exact ⟨k + 1, (r + 1) % n, clr F' r, by go_num, by rw [HM.out], ⟨by omega, hml, HK.out, HS.out.fr.clr hr, fun j => by rw [World.frozen?_setCell]; exact HS.out.fz j, HS.out.off.setCell rfl _⟩⟩
            case measure => simp [intOf]; omega
    · have HK : Hid (sw n (2 * n + 1) h F = (-1, F')) := by
        have := HS.out.run
        rw [show 2 * n + 1 - k = 0 by omega] at this
        exact this.symm
      go_wp2
      try rw [Exit.noGoto_ret]
      go_ret
      exact ⟨by rw [HK.out]; rfl, by rw [HK.out]; exact HS.out.fr, HS.out.fz, HS.out.off⟩
end Go.Proofs.Ytmipngefpedfpaa
