/- The walk of the law's own of: the same loads, as the document's. -/
import Derived.Test.YtclcilbdopkamaaR
namespace Go.Proofs.Ytclcilbdopkamaa
open Go.RowKit
set_option linter.unusedVariables false
set_option linter.unusedSimpArgs false

theorem rload_info : (Try.prog.info? 37).map (fun i => (i.zero, i.size, i.bytes)) = some (some (.agg #[.int .i64 0, .int .i64 0, .int .i64 0, .bool false]), 4, 32) := by kernel_rfl

theorem own_far {w : World} {base : Nat} {e : TypeId} {v : Value} {t b : Nat} {M : Nat → Ld} (h : OwnL w base e v t M) (hb : b < base) : some b ≠ v.ownBlock := by
  intro h2
  have := (h.lt _ h2.symm).1
  omega
def OfPost (L : Nat → Ld) (n : Nat) (w : World) (e : Ending) (w' : World) : Prop := ∃ v, e = .returned v ∧ OwnL w' w.heap.size 37 v n L ∧ Below w.heap.size w w'

set_option maxHeartbeats 1000000 in
theorem of_any (n c : Nat) (A : Option Addr) (L : Nat → Ld) (w : World) (hn : n ≤ 200) (hA : SL w A n L) :
    Calls Try.prog 11 #[.slice A n c] w (OfPost L n w) := by
  obtain ⟨i0, hi, hz0, hz1, hz2⟩ := info_parts rload_info
  have HA := Lib.hid hA
  clear hA
  go_enter Try.func11, Try.ntmps11
  go_wp2
  go_loopw [3, 4] (fun v i wr => ∃ k : Nat, k ≤ n ∧ i = .int .i64 k ∧ OwnL wr w.heap.size 37 v k L ∧ Below w.heap.size w wr) (fun _ i _ => n - (intOf i).toNat)
  case atStart => exact ⟨0, Nat.zero_le _, rfl, World.ownsRow_nil _ _ _ _, Below.refl _ _⟩
  case round =>
    obtain ⟨k, hk, rfl, hown, hb⟩ := hrel
    by_cases hlt : k < n
    · obtain ⟨b, o, e1, q1, q2, c0, c1, c2, c3⟩ := HA.out.at_ hb hlt
      cases e1
      have HO := Lib.hid hown
      have Hb := Lib.hid hb
      have hs := hb.size
      have hfar := own_far hown q1
      clear hown hb
      go_wp2
      go_region_held3 (fun w' => w'.cell? ⟨b, o + k * 4, none⟩ = some (.int .i64 (L k).s) ∧ w'.cell? ⟨b, o + k * 4 + 1, none⟩ = some (.int .i64 (L k).u) ∧ w'.cell? ⟨b, o + k * 4 + 2, none⟩ = some (.int .i64 (L k).z) ∧ w'.cell? ⟨b, o + k * 4 + 3, none⟩ = some (.bool (L k).f))
        (first | go_keep | (refine ⟨?_, ?_, ?_, ?_⟩ <;> (rw [hgrow.cell_far _ (by simp; omega) hfar]; simp [*])))
        ((refine step_append_lies _ (by rfl) _ _ _ (by rfl) w.heap.size 37 i0 _ 4 32 Try.underlying33 hi hz0 hz1 hz2 rfl (by omega) _ k (rowTo L k) (by rfl) ((HO.out.alloc _).drew) ⟨wr.heap.size, 0, none⟩ 1 1 (L k).cells (by rfl) (by rfl) (ld_new _ _ (by simp) _ _) (ld_one _) (by omega) (by unfold maxLen; omega) (by omega) (by simp; omega) (wr.heap.size + 1) (by simp) ?_; intro gg cap w1 hown1 hgrow hat hlt2))
      clear hs
      go_wp2
      go_roundw
      case rel => exact ⟨k + 1, by omega, by go_num, hown1, Below.grown ((Hb.out.alloc Hb.out.size _).drew) hgrow (Nat.le_trans Hb.out.size (by simp)) fun i h => (HO.out.lt _ h).1⟩
      case measure => simp [intOf]; omega
    · go_wp2
      go_ret
      have e : k = n := by omega
      subst e
      exact ⟨_, rfl, hown, hb⟩
end Go.Proofs.Ytclcilbdopkamaa
