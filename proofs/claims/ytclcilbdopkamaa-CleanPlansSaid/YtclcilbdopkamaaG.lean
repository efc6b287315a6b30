/- The walk of clean.Gain. -/
import Derived.Test.YtclcilbdopkamaaQ
namespace Go.Proofs.Ytclcilbdopkamaa
open Go.RowKit
set_option linter.unusedVariables false
set_option linter.unusedSimpArgs false

theorem SL.at_ {w wr : World} {A : Option Addr} {n k : Nat} {L : Nat → Ld} (h : SL w A n L) (hb : Below w.heap.size w wr) (hk : k < n) : ∃ b o, A = some ⟨b, o, none⟩ ∧ b < w.heap.size ∧ b < wr.heap.size ∧ wr.cell? ⟨b, o + k * 4, none⟩ = some (.int .i64 (L k).s) ∧ wr.cell? ⟨b, o + k * 4 + 1, none⟩ = some (.int .i64 (L k).u) ∧ wr.cell? ⟨b, o + k * 4 + 2, none⟩ = some (.int .i64 (L k).z) ∧ wr.cell? ⟨b, o + k * 4 + 3, none⟩ = some (.bool (L k).f) := by
  obtain ⟨b, o, rfl, hl, hc⟩ := h (by omega)
  obtain ⟨h0, h1, h2, h3⟩ := hc k hk
  exact ⟨b, o, rfl, hl, Nat.lt_of_lt_of_le hl hb.size, (hb.cell hl).trans h0, (hb.cell hl).trans h1, (hb.cell hl).trans h2, (hb.cell hl).trans h3⟩

theorem gainTo_yes {M : Nat → Ld} {k : Nat} (h : rightB (M k).s (M k).u (M k).z = true) : gainTo M (k + 1) = gainTo M k + ((M k).z - (M k).u) := by simp [gainTo, h, Ld.free]
theorem gainTo_no {M : Nat → Ld} {k : Nat} (h : rightB (M k).s (M k).u (M k).z = false) : gainTo M (k + 1) = gainTo M k := by simp [gainTo, h]

set_option maxHeartbeats 1000000 in
theorem Gain_any (n c : Nat) (A : Option Addr) (L : Nat → Ld) (w : World) (hn : n ≤ 200) (hA : SL w A n L) :
    Calls Try.prog 10 #[.slice A n c] w fun e w' => e = .returned (.int .i64 (gainTo L n)) ∧ Below w.heap.size w w' := by
  have HA := Lib.hid hA
  clear hA
  go_enter Try.func10, Try.ntmps10
  go_wp2
  go_loopw [3, 8] (fun v i wr => ∃ (k : Nat) (x : Int), k ≤ n ∧ i = .int .i64 k ∧ v = .int .i64 x ∧ x = gainTo L k ∧ Below w.heap.size w wr) (fun _ i _ => n - (intOf i).toNat)
  case atStart => exact ⟨0, 0, Nat.zero_le _, rfl, rfl, rfl, Below.refl _ _⟩
  case round =>
    obtain ⟨k, x, hk, rfl, rfl, hx, hb⟩ := hrel
    by_cases hlt : k < n
    · obtain ⟨b, o, rfl, q0, q1, c0, c1, c2, c3⟩ := HA.out.at_ hb hlt
      have hbd := gainTo_bd L k
      rw [← hx] at hbd
      have HX := Lib.hid hx
      clear hx
      cases hr : rightB (L k).s (L k).u (L k).z
      · go_wp2_with (go_at_call 7; refine (right_is _ _ hr).mono ?_; rintro e w2 ⟨rfl, hb2⟩)
        go_roundw
        case rel => exact ⟨k + 1, x, by omega, by go_num, rfl, by rw [gainTo_no hr]; exact HX.out, below_upto (hb.alloc hb.size _) hb2 (Nat.le_refl _)⟩
        case measure => simp [intOf]; omega
      · have hrr := right_bd hr
        have q2 : b < wr.heap.size + 1 := by omega
        go_wp2_with (go_at_call 7; refine (right_is _ _ hr).mono ?_; rintro e w2 ⟨rfl, hb2⟩; obtain ⟨hc, hf⟩ := bcell hb2)
        go_roundw
        case rel => exact ⟨k + 1, _, by omega, by go_num, rfl, by rw [gainTo_yes hr, ← HX.out], below_upto (hb.alloc hb.size _) hb2 (Nat.le_refl _)⟩
        case measure => simp [intOf]; omega
    · go_wp2
      go_ret
      have e : k = n := by omega
      subst e
      exact ⟨by rw [← hx]; rfl, hb⟩
end Go.Proofs.Ytclcilbdopkamaa
