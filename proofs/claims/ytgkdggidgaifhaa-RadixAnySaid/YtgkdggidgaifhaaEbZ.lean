/- radix.Order, walked. -/
import Derived.Test.YtgkdggidgaifhaaEaZ
import Derived.Test.YtgkdggidgaifhaaDfZ
import Derived.Sort.Grow
import Derived.Lib.SliceRun
namespace Go.Proofs.Ytgkdggidgaifhaa
open Go.RowKit Go.Lib Go.Sort
set_option linter.unusedVariables false
set_option linter.unusedSimpArgs false
/-- A world that has grown, and drawn. -/
def GrW (W w' : World) : Prop := ∃ q os', w' = grow (W.drewN q) os'
theorem GrW.refl (W : World) : GrW W W := ⟨0, #[], by rw [grow_empty]; rfl⟩
theorem GrW.drew {W w' : World} (h : GrW W w') : GrW W w'.drew := by
  obtain ⟨q, os, rfl⟩ := h
  exact ⟨q + 1, os, rfl⟩
theorem GrW.alloc {W w' : World} (h : GrW W w') (o : Obj) : GrW W (w'.alloc o) := by
  obtain ⟨q, os, rfl⟩ := h
  exact ⟨q, os ++ #[o], by rw [alloc_eq_grow, grow_grow]⟩
def cmpI (x y : Int) : Int := if x < y then -1 else if y < x then 1 else 0
def ordA (x y : Int × Int) : Int := if cmpI x.1 y.1 ≠ 0 then cmpI x.1 y.1 else cmpI x.2 y.2
theorem isnan_any (x : Int) (w : World) : Calls Try.prog 75 #[.int .i64 x] w fun e w' => e = .returned (.bool false) ∧ w' = w := by
  go_enter Try.func75, Try.ntmps75
  go_wp2
  go_ret
  exact ⟨by simp, rfl⟩
set_option maxRecDepth 100000 in
theorem cmp_any (x y : Int) (w : World) : Calls Try.prog 53 #[.int .i64 x, .int .i64 y] w fun e w' => e = .returned (.int .i64 (cmpI x y)) ∧ w' = w := by
  unfold cmpI
  by_cases h1 : x < y
  · rw [if_pos h1]
    go_enter Try.func53, Try.ntmps53
    go_wp2_with (go_at_call 75; refine (isnan_any _ _).mono ?_; rintro e w' ⟨rfl, rfl⟩)
    go_ret
    exact ⟨rfl, rfl⟩
  · rw [if_neg h1]
    by_cases h2 : y < x
    · rw [if_pos h2]
      go_enter Try.func53, Try.ntmps53
      go_wp2_with (go_at_call 75; refine (isnan_any _ _).mono ?_; rintro e w' ⟨rfl, rfl⟩)
      go_ret
      exact ⟨rfl, rfl⟩
    · rw [if_neg h2]
      go_enter Try.func53, Try.ntmps53
      go_wp2_with (go_at_call 75; refine (isnan_any _ _).mono ?_; rintro e w' ⟨rfl, rfl⟩)
      go_ret
      exact ⟨rfl, rfl⟩
set_option maxRecDepth 100000 in
theorem or_any {w : World} {G c : Nat} {a b : Int} (h0 : w.cell? ⟨G, 0, none⟩ = some (.int .i64 a)) (h1 : w.cell? ⟨G, 1, none⟩ = some (.int .i64 b)) : Calls Try.prog 52 #[.slice (some ⟨G, 0, none⟩) 2 c] w fun e w' => e = .returned (.int .i64 (if a ≠ 0 then a else b)) ∧ w' = w := by
  have HS : Hid (∀ n : Int, n ≠ 0 → (n == 0) = false) := Lib.hid fun n h => by simpa using h
  go_enter Try.func52, Try.ntmps52
  go_wp2_with fail
  go_loopw [8] (fun i wr => ∃ j : Nat, j ≤ 2 ∧ i = .int .i64 (j : Nat) ∧ wr = w ∧ (0 < j → a = 0) ∧ (1 < j → b = 0)) (fun i _ => 2 - (intOf i).toNat)
  case atStart => exact ⟨0, by omega, rfl, rfl, by omega, by omega⟩
  case round =>
    obtain ⟨j, hj, rfl, rfl, ha, hb⟩ := hrel
    rcases (show j = 0 ∨ j = 1 ∨ j = 2 by omega) with rfl | rfl | rfl
    · by_cases e : a = 0
      · subst e
        clear ha hb
        go_wp2
        go_roundw
        case rel => exact ⟨1, by omega, by first | rfl | trivial, by first | rfl | trivial, fun _ => by first | rfl | trivial, by omega⟩
        case measure => simp [intOf]
      · have e2 := HS.out a e
        clear ha hb
        go_wp2
        go_ret
        exact ⟨by first | rfl | simp [e], rfl⟩
    · obtain rfl := ha (by omega)
      by_cases e : b = 0
      · subst e
        clear ha hb
        go_wp2
        go_roundw
        case rel => exact ⟨2, by omega, by first | rfl | trivial, by first | rfl | trivial, fun _ => by first | rfl | trivial, fun _ => by first | rfl | trivial⟩
        case measure => simp [intOf]
      · have e2 := HS.out b e
        clear ha hb
        go_wp2
        go_ret
        exact ⟨by first | rfl | simp, rfl⟩
    · obtain rfl := ha (by omega)
      obtain rfl := hb (by omega)
      clear ha hb
      go_wp2
      go_ret
      exact ⟨by simp, rfl⟩
set_option maxRecDepth 100000 in
set_option maxHeartbeats 2000000 in
theorem order_any (x y : Int × Int) (W : World) : Calls Try.prog 33 #[.agg #[.int .i64 x.1, .int .i64 x.2], .agg #[.int .i64 y.1, .int .i64 y.2]] W fun e w' => e = .returned (.int .i64 (ordA x y)) ∧ GrW W w' := by
  obtain ⟨x1, x2⟩ := x
  obtain ⟨y1, y2⟩ := y
  have hc1 := fun W => cmp_any x1 y1 W
  have hc2 := fun W => cmp_any x2 y2 W
  unfold ordA
  simp only
  generalize cmpI x1 y1 = c1 at *
  generalize cmpI x2 y2 = c2 at *
  obtain ⟨z, hz⟩ : ∃ z, (if c1 ≠ 0 then c1 else c2) = z := ⟨_, rfl⟩
  have HOR : Hid (∀ (V : World) (G : Nat), V.cell? ⟨G, 0, none⟩ = some (.int .i64 c1) → V.cell? ⟨G, 1, none⟩ = some (.int .i64 c2) → Calls Try.prog 52 #[.slice (some ⟨G, 0, none⟩) 2 2] V fun e w' => e = .returned (.int .i64 z) ∧ w' = V) := Lib.hid fun V G h0 h1 => by
    rw [← hz]
    exact or_any h0 h1
  rw [hz]
  clear hz
  have HC1 := Lib.hid hc1
  have HC2 := Lib.hid hc2
  have HG0 : Hid (GrW W ((W.alloc (.cells #[.int .i64 x1, .int .i64 x2] 30)).alloc (.cells #[.int .i64 y1, .int .i64 y2] 30))) := Lib.hid (((GrW.refl W).alloc _).alloc _)
  clear hc1 hc2
  go_enter Try.func33, Try.ntmps33
  go_upto_region 1 with (fail)
  have x0 := two_boxesR W (x1, x2) (y1, y2) 30 30 _ rfl
  obtain ⟨_, q0, q1, hs⟩ := x0
  refine wp_forget (fun V => GrW W V ∧ BoxA V W.heap.size (x1, x2) ∧ BoxA V (W.heap.size + 1) (y1, y2)) ⟨HG0.out, q0, q1⟩ ?_
  clear q0 q1 hs HG0
  rintro V ⟨hg, q0, q1⟩
  have HG := Lib.hid hg
  have a0 := q0.1
  have a1 := q0.2.1
  have b0 := q1.1
  have b1 := q1.2.1
  have la := q0.lt
  have lb := q1.lt
  simp only at a0 a1 b0 b1
  clear hg q0 q1
  go_region_law (first
    | (go_simp; go_at_call 53; first | ((with_reducible refine (HC1.out _).mono ?_); rintro e w3 ⟨rfl, rfl⟩) | ((with_reducible refine (HC2.out _).mono ?_); rintro e w3 ⟨rfl, rfl⟩))
    | (go_simp; go_at_call 52; (with_reducible refine (HOR.out _ _ (by simp [go_sem]) (by simp [go_sem])).mono ?_); rintro e w4 ⟨rfl, rfl⟩))
  all_goals
    go_wp2
    go_ret
    refine ⟨by first | rfl | simp, ?_⟩
    first
      | exact (HG.out.alloc _).drew
      | exact HG.out.drew.alloc _
      | exact (HG.out.drew.alloc _).drew
end Go.Proofs.Ytgkdggidgaifhaa
