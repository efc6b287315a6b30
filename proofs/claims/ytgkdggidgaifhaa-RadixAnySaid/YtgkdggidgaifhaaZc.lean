/- The shelf of almanaclaw11 as a sink of a tree: NewShelf, radix.New, Puts. -/
import Derived.Test.YtgkdggidgaifhaaZb
namespace Go.Proofs.Ytgkdggidgaifhaa
open Go.RowKit
set_option linter.unusedVariables false
set_option linter.unusedSimpArgs false

theorem ent_of {P : Program} {f : FuncId} {fn : Func} {c : Code} (hf : P.funcs[f]? = some fn) (hname : (fn.name == "runtime.NumGoroutine") = false) (hb : fn.body = some c) (args : Array Value) (w : World) : (callFunc f args).run P w = .ok (.enter f args) w := by
  have h1 : fn.name ≠ "runtime.NumGoroutine" := by simpa using hname
  simp [callFunc, hf, h1, hb, mark]
def shM (S : Nat) : Snk shK where
  T := 27
  p := some ⟨S, 0, none⟩
  fg := 108
  fp := 109
  nilG := fun n w => by kernel_rfl
  nilP := fun n w => by kernel_rfl
  metG := fun n w => by kernel_rfl
  metP := fun n w => by kernel_rfl
  entG := ent_of Try.func108 (by kernel_rfl) rfl
  entP := ent_of Try.func109 (by kernel_rfl) rfl
  At := ShAt S
  off := fun h ho hs => h.off ho hs
  lt := fun h hk => h.lt hk
  get := fun a h => shGet_any a h
  put := fun h hr hv hb => shPut_any h hr hv hb
def sh0 : ShS := ⟨[], -1, [], -1, 0⟩
theorem sh0_rdy {n : Nat} (h : n ≤ 2147483647) : shK.Rdy sh0 n := ⟨by show 0 + n ≤ _; omega, fun b hb => (by cases hb), by show 0 ≤ _; omega, by show (-1 : Int) < _; omega⟩
def ShNew (w : World) (e : Ending) (w' : World) : Prop := e = .returned (.pointer (some ⟨w.heap.size, 0, none⟩)) ∧ Below w.heap.size w w' ∧ w'.heap.size = w.heap.size + 1 ∧ ShAt w.heap.size w' (· = w.heap.size) sh0
set_option maxRecDepth 100000 in
theorem newShelf_any (w : World) : Calls Try.prog 10 #[] w (ShNew w) := by
  go_enter Try.func10, Try.ntmps10
  go_wp2
  go_ret
  refine ⟨rfl, (Below.refl _ _).alloc (Nat.le_refl _) _, by simp, ?_⟩
  have hc : ∀ k v, (#[.slice none 0 0, .int .i64 (-1), .slice none 0 0, .int .i64 (-1), .int .i64 0] : Array Value)[k]? = some v → (w.alloc (.cells #[.slice none 0 0, .int .i64 (-1), .slice none 0 0, .int .i64 (-1), .int .i64 0] 63)).cell? ⟨w.heap.size, k, none⟩ = some v := fun k v hv => by
    rw [cell_of_row _ _ _ _ _ _ (heap_alloc_new w _)]; exact hv
  refine ⟨.slice none 0 0, [], .slice none 0 0, ⟨hc 0 _ rfl, hc 1 _ rfl, hc 2 _ rfl, hc 3 _ rfl, hc 4 _ rfl, fun k => ?_, ⟨rfl, .inl ⟨rfl, rfl⟩⟩, rfl, fun i v b h => by simp at h, ⟨none, 0, 0, rfl, Nat.le_refl _, SBy.nil _ _⟩, by simp [Value.ownBlock], fun v hv => (by cases hv), fun b o n c e => (by cases e), sh0_rdy (by omega), fun k hk => ?_⟩, rfl, fun g hg => (by cases hg), fun v hv => (by cases hv), fun b o n c e => (by cases e), fun k hk => by rw [hk]; simp⟩
  · unfold World.frozen?
    rw [heap_alloc_new]
    simp
  · rw [cell_of_row _ _ _ _ _ _ (heap_alloc_new w _)]
    simp
    omega
/-- A new tree. -/
def TrNew {σ : Type} {K : SnkF σ} (M : Snk K) (w : World) (O : Nat → Prop) (s : σ) (e : Ending) (w' : World) : Prop := e = .returned (.pointer (some ⟨w.heap.size, 0, none⟩)) ∧ Below w.heap.size w w' ∧ w'.heap.size = w.heap.size + 1 ∧ TrAt M w' w.heap.size O s 0
theorem treeNew_any {σ : Type} {K : SnkF σ} {M : Snk K} {w : World} {O : Nat → Prop} {s : σ} (h : M.At w O s) : Calls Try.prog 9 #[.iface M.T (.pointer M.p)] w (TrNew M w O s) := by
  have H := Lib.hid h
  clear h
  go_enter Try.func9, Try.ntmps9
  go_wp2
  go_ret
  refine ⟨rfl, (Below.refl _ _).alloc (Nat.le_refl _) _, by simp, ?_⟩
  have hb := (Below.refl w.heap.size w).alloc (Nat.le_refl _) (.cells #[.iface M.T (.pointer M.p), .int .i64 0] 75)
  refine ⟨M.off H.out (Off.of_below hb) (fun _ => False.elim), fun e => by have := M.lt H.out e; omega, ?_, ?_, ?_⟩
  · rw [cell_of_row _ _ _ _ _ _ (heap_alloc_new w _)]; rfl
  · rw [cell_of_row _ _ _ _ _ _ (heap_alloc_new w _)]; rfl
  · unfold World.frozen?
    rw [heap_alloc_new]
    simp
end Go.Proofs.Ytgkdggidgaifhaa
