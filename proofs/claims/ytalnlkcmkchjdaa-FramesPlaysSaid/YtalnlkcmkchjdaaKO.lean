/- The acts other than Take, as FramesKeys sees them. -/
import Derived.Test.YtalnlkcmkchjdaaKB
namespace Go.Proofs.Ytalnlkcmkchjdaa
open Go.RowKit Go.Maps
set_option linter.unusedVariables false
set_option linter.unusedSimpArgs false

theorem frame_kind (n : Nat) (F : Nat → Fr) (f : Int) : (f < 0 ∨ (n : Int) ≤ f ∨ (F f.toNat).used = false) ∨ ∃ j : Nat, f = j ∧ j < n ∧ (F j).used = true := by
  by_cases h0 : f < 0
  · exact .inl (.inl h0)
  by_cases h1 : (n : Int) ≤ f
  · exact .inl (.inr (.inl h1))
  obtain ⟨j, rfl⟩ := Int.eq_ofNat_of_zero_le (show 0 ≤ f by omega)
  cases hu : (F j).used
  · exact .inl (.inr (.inr hu))
  · exact .inr ⟨j, rfl, by omega, hu⟩

theorem KInv.alike {n j : Nat} {F : Nat → Fr} {g : Int → Option Nat} {f : Fr} (I : KInv n F g) (hj : j < n) (h1 : f.key = (F j).key) (h2 : f.used = (F j).used) (h3 : 0 ≤ f.pins ∧ f.pins ≤ 1048576) :
    KInv n (putF F j f) g ∧ cntF qUsed (putF F j f) n = cntF qUsed F n := by
  refine ⟨⟨I.good.same fun i hi => ?_, fun i hi => ?_⟩, cntF_congr fun i hi => ?_⟩
  all_goals
    unfold putF
    by_cases h : i = j
    · subst h; simp [h1, h2, h3, qUsed]
    · simp [h, I.pins i hi]

/-- What an act does that changes no key. -/
def KOp (n : Nat) (F : Nat → Fr) (h : Nat) (g : Int → Option Nat) (P B M : Nat) (w : World) (fn : FuncId) (args : Array Value) : Prop :=
  ∃ e0 F', KInv n F' g ∧ cntF qUsed F' n = cntF qUsed F n ∧ Calls Try.prog fn args w (OpPost P B M n e0 F' h g w)

section
variable {w : World} {P B M n : Nat} {F : Nat → Fr} {h : Nat} {g : Int → Option Nat} {c : Nat}
theorem touch_k (I : KInv n F g) (p : PoolAt w P B M n F h g c) (f : Int) (write : Bool) : KOp n F h g P B M w 10 #[.pointer (some ⟨P, 0, none⟩), .int .i64 f, .bool write] := by
  rcases frame_kind n F f with hf | ⟨j, rfl, hj, hu⟩
  · exact ⟨2, F, I, rfl, Touch_no p f write hf⟩
  · obtain ⟨k1, k2⟩ := I.alike (f := { F j with ref := true, dirty := (F j).dirty || write }) hj rfl rfl (I.pins j hj)
    exact ⟨0, _, k1, k2, Touch_yes p j write hj hu⟩
theorem pin_k (I : KInv n F g) (p : PoolAt w P B M n F h g c) (f : Int) : KOp n F h g P B M w 12 #[.pointer (some ⟨P, 0, none⟩), .int .i64 f] := by
  rcases frame_kind n F f with hf | ⟨j, rfl, hj, hu⟩
  · exact ⟨2, F, I, rfl, Pin_no p f hf⟩
  · have hp := I.pins j hj
    by_cases h1 : (F j).pins < 1048576
    · obtain ⟨k1, k2⟩ := I.alike (f := { F j with pins := (F j).pins + 1 }) hj rfl rfl ⟨by show 0 ≤ (F j).pins + 1; omega, by show (F j).pins + 1 ≤ 1048576; omega⟩
      exact ⟨0, _, k1, k2, Pin_yes p j hj hu hp.1 h1⟩
    · exact ⟨_, F, I, rfl, Pin_full p j hj hu (by omega)⟩
theorem unpin_k (I : KInv n F g) (p : PoolAt w P B M n F h g c) (f : Int) : KOp n F h g P B M w 16 #[.pointer (some ⟨P, 0, none⟩), .int .i64 f] := by
  rcases frame_kind n F f with hf | ⟨j, rfl, hj, hu⟩
  · exact ⟨2, F, I, rfl, Unpin_no p f hf⟩
  · have hp := I.pins j hj
    by_cases h1 : 0 < (F j).pins
    · obtain ⟨k1, k2⟩ := I.alike (f := { F j with pins := (F j).pins - 1 }) hj rfl rfl ⟨by show 0 ≤ (F j).pins - 1; omega, by show (F j).pins - 1 ≤ 1048576; omega⟩
      exact ⟨0, _, k1, k2, Unpin_yes p j hj hu h1 hp.2⟩
    · exact ⟨9, F, I, rfl, Unpin_not p j hj hu (by omega)⟩
theorem drop_k (I : KInv n F g) (p : PoolAt w P B M n F h g c) (f : Int) :
    (∃ e0 : Int, (e0 == 0) = false ∧ Calls Try.prog 15 #[.pointer (some ⟨P, 0, none⟩), .int .i64 f] w (OpPost P B M n e0 F h g w)) ∨
    ∃ j : Nat, f = j ∧ j < n ∧ (g (F j).key).isSome = true ∧ KInv n (putF F j Fr.zero) (upd g (F j).key none) ∧ cntF qUsed (putF F j Fr.zero) n = cntF qUsed F n - 1 ∧
      Calls Try.prog 15 #[.pointer (some ⟨P, 0, none⟩), .int .i64 f] w (OpPost P B M n 0 (putF F j Fr.zero) h (upd g (F j).key none) w) := by
  rcases frame_kind n F f with hf | ⟨j, rfl, hj, hu⟩
  · exact .inl ⟨2, rfl, Drop_no p f hf⟩
  · by_cases h1 : 0 < (F j).pins
    · exact .inl ⟨9, rfl, Drop_not p j hj hu h1⟩
    · refine .inr ⟨j, rfl, hj, by rw [I.good.a j hj hu]; rfl, ⟨I.good.drop hj hu, fun i hi => ?_⟩, ?_, Drop_yes p j hj hu h1⟩
      · unfold putF
        split
        · simp [Fr.zero]
        · exact I.pins i hi
      · have e1 := cntF_put (q := qUsed) (F := F) (f := Fr.zero) hj
        have e3 : qUsed (F j) = true := hu
        have e4 : qUsed Fr.zero = false := rfl
        rw [e3, e4] at e1
        simp at e1
        omega
theorem at_k (p : PoolAt w P B M n F h g c) (f : Int) : ∃ x e0, Calls Try.prog 14 #[.pointer (some ⟨P, 0, none⟩), .int .i64 f] w (AtPost x e0 w) ∧ ∀ j : Nat, f = j → j < n → x = F j := by
  by_cases h0 : f < 0
  · exact ⟨_, _, At_no p f (.inl h0), fun j e hj => by omega⟩
  by_cases h1 : (n : Int) ≤ f
  · exact ⟨_, _, At_no p f (.inr h1), fun j e hj => by omega⟩
  obtain ⟨j, rfl⟩ := Int.eq_ofNat_of_zero_le (show 0 ≤ f by omega)
  exact ⟨_, _, At_yes p j (by omega), fun i e hi => by have : i = j := by omega
                                                       rw [this]⟩
end
end Go.Proofs.Ytalnlkcmkchjdaa
