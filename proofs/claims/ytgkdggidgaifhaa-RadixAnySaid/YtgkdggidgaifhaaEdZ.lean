/- slices.SortFunc of addresses, by the kit's contract. -/
import Derived.Test.YtgkdggidgaifhaaEbZ
import Derived.Test.YtgkdggidgaifhaaEcZ
import Derived.Shelf.SlSortCmp.NoneTotal
import Derived.Shelf.Lay
import Derived.Ground.SlsfProg
namespace Go.Proofs
open Go.Shelf
shelf_lay_g SlLaysF0.n6 Slsf 6 at Try 32 as Try.sortR
end Go.Proofs
namespace Go.Proofs.Ytgkdggidgaifhaa
open Go.Shelf Go.RowKit Go.Lib Go.Sort
set_option linter.unusedVariables false
set_option linter.unusedSimpArgs false
def encR (x : Int × Int) : List Value := [.int .i64 x.1, .int .i64 x.2]
theorem cmpLaysR (blk off size : Nat) (w : World) : CmpLays Try.prog 33 #[] encR 2 ordA blk off size w :=
  fun _ _ _ _ x y => order_any x y _
theorem lt_ordA (x y : Int × Int) : ltOf ordA x y = decide (x.1 < y.1 ∨ (x.1 = y.1 ∧ x.2 < y.2)) := by
  unfold ltOf ordA cmpI
  by_cases h1 : x.1 < y.1
  · simp [h1]
  · by_cases h2 : y.1 < x.1
    · have : ¬ x.1 = y.1 := by omega
      simp [h1, h2, this]
    · have h3 : x.1 = y.1 := by omega
      by_cases h4 : x.2 < y.2
      · simp [h1, h2, h3, h4]
      · by_cases h5 : y.2 < x.2 <;> simp [h1, h2, h3, h4, h5]
theorem swoA : SWO (ltOf ordA) where
  irrefl x := by rw [lt_ordA]; simp
  trans x y z h1 h2 := by rw [lt_ordA] at *; simp at *; omega
  ntrans x y z h1 h2 := by rw [lt_ordA] at *; simp at *; omega
theorem totA (x y : Int × Int) (h1 : ltOf ordA x y = false) (h2 : ltOf ordA y x = false) : x = y := by
  rw [lt_ordA] at *
  simp at *
  obtain ⟨x1, x2⟩ := x
  obtain ⟨y1, y2⟩ := y
  simp at *
  omega
theorem holds_of_rwp {w : World} {G o : Nat} {d : Array (Int × Int)} (h : RwP w G o d) : HoldsK encR 2 w G o d := fun t ht => by
  have ht' : t < d.size * 2 := by simpa using ht
  rw [get_flatK _ _ _ t ht']
  obtain ⟨z0, z1, z2, z3⟩ := h.2 (t / 2) (by omega)
  rcases (show t % 2 = 0 ∨ t % 2 = 1 by omega) with e | e
  · rw [e, show o + t = o + t / 2 * 2 by omega]
    exact ⟨z0, z2⟩
  · rw [e, show o + t = o + t / 2 * 2 + 1 by omega]
    exact ⟨z1, z3⟩
theorem rwp_of_holds {w : World} {G o : Nat} {d : Array (Int × Int)} (hG : G < w.heap.size) (h : HoldsK encR 2 w G o d) : RwP w G o d := ⟨hG, fun i hi => by
  have h0 := h (i * 2) (by simp; omega)
  have h1 := h (i * 2 + 1) (by simp; omega)
  rw [get_flatK _ _ _ _ (by omega)] at h0 h1
  rw [show i * 2 / 2 = i by omega, show i * 2 % 2 = 0 by omega] at h0
  rw [show (i * 2 + 1) / 2 = i by omega, show (i * 2 + 1) % 2 = 1 by omega] at h1
  exact ⟨h0.1, h1.1, h0.2, h1.2⟩⟩
theorem off_putRow (w : World) (G o : Nat) (F : Array Value) : Off (· = G) w (putRow id w G o F) := by
  unfold putRow mapBlock
  exact ⟨rfl, rfl, rfl, by simp, fun k hk hn => by simp [Array.getElem?_modify, Ne.symm hn]⟩
theorem off_grow (w : World) (os : Array Obj) : Off (fun _ => False) w (grow w os) := ⟨rfl, rfl, rfl, by simp [grow], fun k hk _ => by simp [grow, Array.getElem?_append, hk]⟩
theorem sort_world {w : World} {G o n : Nat} {d d' : Array (Int × Int)} {os : Array Obj} (h : RwP w G o d) (hs : d'.size = d.size) : RwP (sortWorldK encR 2 w G o n d' os) G o d' ∧ Off (· = G) w (sortWorldK encR 2 w G o n d' os) := by
  have h0 : HoldsK encR 2 (Sort.ahead w n) G o d := holds_of_rwp h
  have h1 : Holds id (putRow id (Sort.ahead w n) G o (flatK encR 2 d')) G o (flatK encR 2 d') := holds_putRow id _ G o (flatK encR 2 d) (flatK encR 2 d') h0 (by simp [hs])
  have o1 : Off (· = G) w (putRow id (Sort.ahead w n) G o (flatK encR 2 d')) := (show Off (· = G) w (Sort.ahead w n) from ⟨rfl, rfl, rfl, Nat.le_refl _, fun _ _ _ => rfl⟩).trans (off_putRow (Sort.ahead w n) G o _)
  have h2 := rwp_of_holds (Nat.lt_of_lt_of_le h.1 o1.size) h1
  unfold sortWorldK putRowK
  exact ⟨h2.off (off_grow _ os) id, o1.trans ((off_grow _ os).mono fun _ => False.elim)⟩
set_option maxHeartbeats 1000000 in
theorem sortR_any {w : World} {G o c : Nat} {d : Array (Int × Int)} (hH : HoldsK encR 2 w G o d) (hG : G < w.heap.size) (hsz : d.size < 4611686018427387904) :
    Calls Try.prog 32 #[.slice (some ⟨G, o, none⟩) d.size c, .func (.func 33) #[] #[]] w fun e w' => e = .returned (.tuple #[]) ∧ ∃ n os, w' = sortWorldK encR 2 w G o n (d.toList.mergeSort fun x y => !(ltOf ordA) y x).toArray os := by
  have eg : ∀ args w, (callFunc 33 args).run Try.prog w = .ok (.enter 33 args) w := enters_of Try.func33 (by kernel_rfl) rfl
  have hcon := AnyQ.slices_SortFunc_total Try.sortR 2 (fun w => by kernel_rfl) (fun w => by kernel_rfl) encR (fun _ => rfl) (fun x v hv => by simp [encR] at hv; rcases hv with rfl | rfl <;> rfl) ordA swoA 33 #[] G o c d w eg (cmpLaysR G o d.size w) hH hG hsz totA
  exact hcon
theorem sortR_none (w : World) (A : Option Addr) (c : Nat) : Calls Try.prog 32 #[.slice A 0 c, .func (.func 33) #[] #[]] w fun e w' => e = .returned (.tuple #[]) ∧ w' = w :=
  AnyF.slices_SortFunc_none (P := Try.prog) (ρ := Try.sortR_ren) Try.sortR A c (.func (.func 33) #[] #[]) w
end Go.Proofs.Ytgkdggidgaifhaa
