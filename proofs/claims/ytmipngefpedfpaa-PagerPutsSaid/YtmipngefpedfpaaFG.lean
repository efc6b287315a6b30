/- New, and the law's own known. -/
import Derived.Test.YtmipngefpedfpaaFF
namespace Go.Proofs.Ytmipngefpedfpaa
open Go.RowKit Go.Maps
set_option linter.unusedVariables false
set_option linter.unusedSimpArgs false

theorem frame_info : (Try.prog.info? 97).map (fun i => (i.zero, i.size, i.bytes)) = some (some (.agg #[.int .i64 0, .bool false, .bool false, .bool false, .int .i64 0]), 5, 24) := by kernel_rfl

theorem made_at (z : Array Value) (m j : Nat) (hj : j < m) : (madeCells z m)[j]? = some (z[j % z.size]!) := by
  unfold madeCells
  simp [hj]

def zeroCells (n : Nat) : Array Value := madeCells #[.int .i64 0, .bool false, .bool false, .bool false, .int .i64 0] (n * 5)
theorem zero_at (n i : Nat) (hi : i < n) : (zeroCells n)[i * 5]? = some (.int .i64 0) ∧ (zeroCells n)[i * 5 + 1]? = some (.bool false) ∧ (zeroCells n)[i * 5 + 2]? = some (.bool false) ∧ (zeroCells n)[i * 5 + 3]? = some (.bool false) ∧ (zeroCells n)[i * 5 + 4]? = some (.int .i64 0) := by
  unfold zeroCells
  refine ⟨?_, ?_, ?_, ?_, ?_⟩
  all_goals
    rw [made_at _ _ _ (by omega)]
    simp only [List.size_toArray, List.length_cons, List.length_nil, Nat.zero_add, Nat.reduceAdd]
  · rw [show i * 5 % 5 = 0 by omega]; rfl
  · rw [show (i * 5 + 1) % 5 = 1 by omega]; rfl
  · rw [show (i * 5 + 2) % 5 = 2 by omega]; rfl
  · rw [show (i * 5 + 3) % 5 = 3 by omega]; rfl
  · rw [show (i * 5 + 4) % 5 = 4 by omega]; rfl

theorem run_make_frames (n : Nat) (hn : n ≤ 4096) (w : World) :
    (Instr.makeSlice 92 (.int .i64 (n : Int)) (.int .i64 (n : Int))).run Try.prog w = .ok (.slice (some ⟨w.heap.size, 0, none⟩) n n) (w.alloc (.cells (zeroCells n) 97)) := by
  obtain ⟨i0, hi, hz0, hz1, hz2⟩ := info_parts frame_info
  have h := run_make (P := Try.prog) w 92 97 i0 _ Try.underlying92 hi hz0 .i64 .i64 n n (by omega) (by omega) (by rw [hz2]; omega) (by omega)
  rw [h]
  simp [hz1, Value.cells, zeroCells]

def NewPost (n : Nat) (w : World) (e : Ending) (w' : World) : Prop :=
  ∃ P B M, e = .returned (.tuple #[.pointer (some ⟨P, 0, none⟩), .int .i64 0]) ∧ PoolAt w' P B M n (fun _ => Fr.zero) 0 (fun _ => none) 0 ∧ w.heap.size ≤ P ∧ w.heap.size ≤ B ∧ w.heap.size ≤ M ∧ Below w.heap.size w w'

theorem new_pool (w : World) (n : Nat) (h1 : 0 < n) (h2 : n ≤ 4096) (t : TypeId) :
    PoolAt (((w.alloc (.cells (zeroCells n) 97)).alloc (.map #[] 0)).alloc (.cells #[.slice (some ⟨w.heap.size, 0, none⟩) n n, .map (some (w.heap.size + 1)), .int .i64 0] t)) (w.heap.size + 2) w.heap.size (w.heap.size + 1) n (fun _ => Fr.zero) 0 (fun _ => none) 0 := by
  obtain ⟨w1, hw1⟩ : ∃ w1, w1 = w.alloc (.cells (zeroCells n) 97) := ⟨_, rfl⟩
  obtain ⟨w2, hw2⟩ : ∃ w2, w2 = w1.alloc (.map #[] 0) := ⟨_, rfl⟩
  rw [← hw1, ← hw2]
  have s1 : w1.heap.size = w.heap.size + 1 := by rw [hw1]; simp
  have s2 : w2.heap.size = w.heap.size + 2 := by rw [hw2]; simp [s1]
  have b0 : w1.heap[w.heap.size]? = some (.cells (zeroCells n) 97 (0, 0)) := by rw [hw1]; exact heap_alloc_new w _
  have b0' : w2.heap[w.heap.size]? = some (.cells (zeroCells n) 97 (0, 0)) := by rw [hw2, Below.heap_alloc _ _ _ (by omega)]; exact b0
  have b1 : MapIs Try.prog 101 w2 (w.heap.size + 1) (fun _ => none) 0 := by
    rw [hw2, ← s1]; exact MapIs.made w1
  generalize hw3 : w2.alloc (.cells #[.slice (some ⟨w.heap.size, 0, none⟩) n n, .map (some (w.heap.size + 1)), .int .i64 0] t) = w3
  have b3 : w3.heap[w.heap.size + 2]? = some (.cells #[.slice (some ⟨w.heap.size, 0, none⟩) n n, .map (some (w.heap.size + 1)), .int .i64 0] t (0, 0)) := by rw [← hw3, ← s2]; exact heap_alloc_new w2 _
  have b03 : w3.heap[w.heap.size]? = some (.cells (zeroCells n) 97 (0, 0)) := by rw [← hw3, Below.heap_alloc _ _ _ (by omega)]; exact b0'
  have b13 : MapIs Try.prog 101 w3 (w.heap.size + 1) (keyF fun _ => none) 0 := by
    have : (keyF fun _ => none) = fun _ => none := by funext v; unfold keyF; cases nameOf v <;> rfl
    rw [this]
    exact b1.of_block (by rw [← hw3, Below.heap_alloc _ _ _ (by omega)])
  refine ⟨?_, ?_, ?_, fun i => ?_, fun i hi => ?_, fun j => ?_, b13, by omega, h1, h2, h1, fun _ _ => by decide⟩
  · rw [cell_of_row _ _ _ _ _ _ b3]; rfl
  · rw [cell_of_row _ _ _ _ _ _ b3]; rfl
  · rw [cell_of_row _ _ _ _ _ _ b3]; rfl
  · simp [World.frozen?, b3]
  · obtain ⟨z0, z1, z2, z3, z4⟩ := zero_at n i hi
    refine ⟨?_, ?_, ?_, ?_, ?_⟩
    all_goals rw [cell_of_row _ _ _ _ _ _ b03]
    all_goals assumption
  · simp [World.frozen?, b03]

set_option maxHeartbeats 400000 in
theorem New_any (w : World) (n : Nat) (h1 : 0 < n) (h2 : n ≤ 4096) : Calls Try.prog 26 #[.int .i64 n] w (NewPost n w) := by
  have hmk := run_make_frames n h2
  have hmm := @run_makeMap Try.prog
  have HX : Hid (∀ t W, W = (((w.alloc (.cells (zeroCells n) 97)).alloc (.map #[] 0)).alloc (.cells #[.slice (some ⟨w.heap.size, 0, none⟩) n n, .map (some (w.heap.size + 1)), .int .i64 0] t)) → ∀ e, e = .returned (.tuple #[.pointer (some ⟨w.heap.size + 2, 0, none⟩), .int .i64 0]) → NewPost n w e W) := by
    rintro t W rfl e rfl
    exact ⟨_, _, _, rfl, new_pool w n h1 h2 t, by omega, by omega, by omega, (((Below.refl _ _).alloc (Nat.le_refl _) _).alloc (by simp) _).alloc (by simp; omega) _⟩
  go_enter Try.func26, Try.ntmps26
  go_wp2
  go_ret2
  exact HX.out _ _ rfl _ rfl
end Go.Proofs.Ytmipngefpedfpaa
