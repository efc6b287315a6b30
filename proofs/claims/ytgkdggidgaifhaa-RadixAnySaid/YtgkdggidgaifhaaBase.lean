/- Helpers that hold over any program: worlds above another one; a region that draws its order and whose calls make new memory alone. -/
import Derived.Test.YtgkdggidgaifhaaRows
import Derived.WalkKit
import Derived.Handy
import Derived.Lib.Hide
import Derived.WalkSmall
import Derived.Deep.QuietTactic
import Derived.BigQuiet
import Derived.Deep.Slices
import Derived.Deep.Fields
import Derived.ChangeSame
import Derived.Deep.AppendLies
import Derived.Deep.Draws
import Derived.Maps.AppendAt
import Derived.RegionTactic
import Derived.OwnWalk
import Derived.WalkSpells
import Derived.Deep.DeepFit
import Derived.Deep.LoopGhost
import Derived.Deep.Cut
import Derived.Deep.DeepCutAuto
import Derived.StillTailTactics
import Derived.Deep.RegionHeld3
namespace Go.Proofs.Ytgkdggidgaifhaa
open Go.RowKit
set_option linter.unusedVariables false

theorem ret_bool {a b : Bool} (h : a = b) : Ending.returned (.bool a) = .returned (.bool b) := by rw [h]
theorem ret_int {k : IntKind} {a b : Int} (h : a = b) : Ending.returned (.int k a) = .returned (.int k b) := by rw [h]

/-- A world in which all that lies in w lies unchanged. -/
structure Up (w : World) where
  world : World
  h : Below w.heap.size w world

instance (w : World) : Nonempty (Up w) := ⟨⟨w, Below.refl _ _⟩⟩
theorem Up.size {w : World} (g : Up w) : w.heap.size ≤ g.world.heap.size := g.h.size
@[simp, go_sem] theorem Up.cell {w : World} (g : Up w) {b o : Nat} (hb : b < w.heap.size) : g.world.cell? ⟨b, o, none⟩ = w.cell? ⟨b, o, none⟩ := g.h.cell (p := ⟨b, o, none⟩) hb
@[simp, go_sem] theorem Up.frozen {w : World} (g : Up w) {b o : Nat} (hb : b < w.heap.size) : g.world.frozen? ⟨b, o, none⟩ = w.frozen? ⟨b, o, none⟩ := g.h.frozen (p := ⟨b, o, none⟩) hb

theorem below_drewN {B : Nat} {a w : World} (h : Below B a w) (n : Nat) : Below B a (w.drewN n) := ⟨h.os, h.tape, h.output, h.size, h.block⟩
theorem below_upto {a b c : World} {B : Nat} (h : Below B a b) (k : Below b.heap.size b c) (hB : B ≤ a.heap.size) : Below B a c := h.trans (k.mono (Nat.le_trans hB h.size))

theorem bcell {W w1 : World} (hb : Below W.heap.size W w1) : (∀ b o, b < W.heap.size → w1.cell? ⟨b, o, none⟩ = W.cell? ⟨b, o, none⟩) ∧ (∀ b o, b < W.heap.size → w1.frozen? ⟨b, o, none⟩ = W.frozen? ⟨b, o, none⟩) :=
  ⟨fun b o h => hb.cell (p := ⟨b, o, none⟩) h, fun b o h => hb.frozen (p := ⟨b, o, none⟩) h⟩

/-- One call more, above a world W that is known whole. -/
theorem below_step {B : Nat} {W a b : World} (h : Below B W a) (k : Below a.heap.size a b) (hB : B ≤ W.heap.size) : Below B W b := below_upto h k hB
theorem bcells {B : Nat} {W a : World} (h : Below B W a) : (∀ b o, b < B → a.cell? ⟨b, o, none⟩ = W.cell? ⟨b, o, none⟩) ∧ (∀ b o, b < B → a.frozen? ⟨b, o, none⟩ = W.frozen? ⟨b, o, none⟩) :=
  ⟨fun b o hb => h.cell (p := ⟨b, o, none⟩) hb, fun b o hb => h.frozen (p := ⟨b, o, none⟩) hb⟩

/-- Of the world only R is kept. -/
theorem wp_forget {P : Program} {c : Code} {Q : Exit → Act → World → Prop} {a : Act} {w : World} (R : World → Prop) (h : R w) (H : ∀ w', R w' → c.wp P Q a w') : c.wp P Q a w := H w h

section
variable {P : Program}
/-- A region that draws its order, whose own operations only read and whose calls make new memory alone: one walk of the text's order. -/
theorem wp_region_up {id : Nat} {Q : Exit → Act → World → Prop} {a : Act} {w : World} {l : List Oper} (hm : P.follows .mixedOrders = true) (hB : Region.lexB .any l.toArray = true)
    (h : wpQuiet P l.toArray (fun w' => ∃ g : Up w, w' = g.world) (fun a' => ∀ w', (∃ g : Up w, w' = g.world) → Q .normal a' w') l a) : (Code.region id l.toArray true).wp P Q a w :=
  wp_region_quiet (C := fun w' => ∃ g : Up w, w' = g.world) hm hB ⟨⟨_, (Below.refl _ _).drew⟩, rfl⟩ (by simpa using h)

theorem Calls.up_of {f : FuncId} {args : Array Value} {w : World} {g : Up w} {v : Value}
    (h : Calls P f args g.world fun e w' => e = .returned v ∧ Below g.world.heap.size g.world w') : Calls P f args g.world fun e w'' => e = .returned v ∧ ∃ g' : Up w, w'' = g'.world :=
  h.mono fun _ w1 ⟨he, hb⟩ => ⟨he, ⟨w1, g.h.trans (hb.mono g.h.size)⟩, rfl⟩
end
end Go.Proofs.Ytgkdggidgaifhaa
