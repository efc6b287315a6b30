/- Pin, Unpin, Clean, Count. -/
import Derived.Test.YtalnlkcmkchjdaaFK
namespace Go.Proofs.Ytalnlkcmkchjdaa
open Go.RowKit Go.Maps
set_option linter.unusedVariables false
set_option linter.unusedSimpArgs false

section
variable {w : World} {P B M n : Nat} {F : Nat → Fr} {h : Nat} {g : Int → Option Nat} {c : Nat}

theorem set_pins (p : PoolAt w P B M n F h g c) {f : Nat} (hf : f < n) (x : Int) : PoolAt (w.setCell ⟨B, f * 5 + 4, none⟩ (.int .i64 x)) P B M n (putF F f { F f with pins := x }) h g c :=
  p.set (f := { F f with pins := x }) (s := 4) hf (by omega) (by omega) rfl (fun _ => rfl) (fun _ => rfl) (fun _ => rfl) (fun e => absurd rfl e) (fun e => by omega) (fun e => by omega) (fun e => by omega) (fun _ => rfl)

set_option maxHeartbeats 400000 in
theorem Pin_yes (p : PoolAt w P B M n F h g c) (f : Nat) (hf : f < n) (hu : (F f).used = true) (h0 : 0 ≤ (F f).pins) (h1 : (F f).pins < 1048576) :
    Calls Try.prog 12 #[.pointer (some ⟨P, 0, none⟩), .int .i64 f] w (OpPost P B M n 0 (putF F f { F f with pins := (F f).pins + 1 }) h g w) := by
  have HU := Lib.hid (used_yes p f hf hu)
  have c4 := (p.fr f hf).c4
  have z4 := p.fz (f * 5 + 4)
  have HX : Hid (OpPost P B M n 0 (putF F f { F f with pins := (F f).pins + 1 }) h g w (.returned (.int .i64 0)) (w.setCell ⟨B, f * 5 + 4, none⟩ (.int .i64 ((F f).pins + 1)))) :=
    ⟨rfl, ⟨c, set_pins p hf _⟩, (Off.refl _ _).setCell (.inr (.inl rfl)) _⟩
  clear p hu
  go_enter Try.func12, Try.ntmps12
  go_wp2_with fail
  refine HU.out.mono ?_
  rintro e w1 ⟨rfl, rfl⟩
  go_wp2
  go_ret
  exact HX.out
set_option maxHeartbeats 400000 in
theorem Pin_full (p : PoolAt w P B M n F h g c) (f : Nat) (hf : f < n) (hu : (F f).used = true) (h1 : 1048576 ≤ (F f).pins) :
    Calls Try.prog 12 #[.pointer (some ⟨P, 0, none⟩), .int .i64 f] w (OpPost P B M n 10 F h g w) := by
  have HU := Lib.hid (used_yes p f hf hu)
  have c4 := (p.fr f hf).c4
  have HP := Lib.hid p
  clear p hu
  go_enter Try.func12, Try.ntmps12
  go_wp2_with fail
  refine HU.out.mono ?_
  rintro e w1 ⟨rfl, rfl⟩
  go_wp2
  go_ret
  exact ⟨rfl, ⟨c, HP.out⟩, Off.refl _ _⟩
set_option maxHeartbeats 400000 in
theorem Pin_no (p : PoolAt w P B M n F h g c) (f : Int) (hf : f < 0 ∨ (n : Int) ≤ f ∨ (F f.toNat).used = false) :
    Calls Try.prog 12 #[.pointer (some ⟨P, 0, none⟩), .int .i64 f] w (OpPost P B M n 2 F h g w) := by
  have HU := Lib.hid (used_no p f hf)
  have HP := Lib.hid p
  clear p hf
  go_enter Try.func12, Try.ntmps12
  go_wp2_with fail
  refine HU.out.mono ?_
  rintro e w1 ⟨rfl, rfl⟩
  go_wp2
  go_ret
  exact ⟨rfl, ⟨c, HP.out⟩, Off.refl _ _⟩

/-- How many of the first k frames meet q. -/
def cntF (q : Fr → Bool) (F : Nat → Fr) : Nat → Nat
  | 0 => 0
  | k + 1 => cntF q F k + if q (F k) then 1 else 0
theorem cntF_le (q : Fr → Bool) (F : Nat → Fr) (k : Nat) : cntF q F k ≤ k := by
  induction k with
  | zero => simp [cntF]
  | succ k ih => unfold cntF; split <;> omega
theorem cntF_yes {q : Fr → Bool} {F : Nat → Fr} {k : Nat} (h : q (F k) = true) : cntF q F (k + 1) = cntF q F k + 1 := by simp [cntF, h]
theorem cntF_no {q : Fr → Bool} {F : Nat → Fr} {k : Nat} (h : q (F k) = false) : cntF q F (k + 1) = cntF q F k := by simp [cntF, h]

def qUsed (f : Fr) : Bool := f.used
def qDirty (f : Fr) : Bool := f.dirty
def qPinned (f : Fr) : Bool := decide (0 < f.pins)

set_option maxHeartbeats 2000000 in
theorem Count_any (p : PoolAt w P B M n F h g c) :
    Calls Try.prog 13 #[.pointer (some ⟨P, 0, none⟩)] w fun e w' => e = .returned (.tuple #[.int .i64 (cntF qUsed F n : Nat), .int .i64 (cntF qDirty F n : Nat), .int .i64 (cntF qPinned F n : Nat)]) ∧ Below w.heap.size w w' := by
  have l0 := p.l0
  have hn := p.most
  have HP := Lib.hid p
  clear p
  go_enter Try.func13, Try.ntmps13
  go_wp2
  go_loopw [2, 3, 4, 12] (fun u d q i wr => ∃ (k a b x : Nat), k ≤ n ∧ i = .int .i64 k ∧ u = .int .i64 a ∧ d = .int .i64 b ∧ q = .int .i64 x ∧ a = cntF qUsed F k ∧ b = cntF qDirty F k ∧ x = cntF qPinned F k ∧ Below w.heap.size w wr) (fun _ _ _ i _ => n - (intOf i).toNat)
  case atStart => exact ⟨0, 0, 0, 0, Nat.zero_le _, rfl, rfl, rfl, rfl, rfl, rfl, rfl, Below.refl _ _⟩
  case round =>
    obtain ⟨k, a, b, x, hk, rfl, rfl, rfl, rfl, ha, hb, hx, hbl⟩ := hrel
    have a1 := cntF_le qUsed F k
    have b1 := cntF_le qDirty F k
    have x1 := cntF_le qPinned F k
    rw [← ha] at a1
    rw [← hb] at b1
    rw [← hx] at x1
    have HAB : Hid (a = cntF qUsed F k ∧ b = cntF qDirty F k ∧ x = cntF qPinned F k ∧ Below w.heap.size w wr) := ⟨ha, hb, hx, hbl⟩
    by_cases hlt : k < n
    · obtain ⟨c0, c1, c2, c3, c4⟩ := (HP.out.up hbl).fr k hlt
      clear ha hb hx hbl
      cases hu : (F k).used <;> cases hd : (F k).dirty <;> by_cases hp : 0 < (F k).pins
      all_goals
        go_wp2
        go_roundw
        case rel =>
          obtain ⟨ha, hb, hx, hbl⟩ := HAB.out
          refine ⟨k + 1, _, _, _, by omega, by go_num, by first | rfl | go_num, by first | rfl | go_num, by first | rfl | go_num, ?_, ?_, ?_, hbl.alloc hbl.size _⟩
          · first | (rw [cntF_yes (q := qUsed) hu, ← ha]; done) | (rw [cntF_no (q := qUsed) hu]; exact ha)
          · first | (rw [cntF_yes (q := qDirty) hd, ← hb]; done) | (rw [cntF_no (q := qDirty) hd]; exact hb)
          · first | (rw [cntF_yes (q := qPinned) (by simp [qPinned, hp]), ← hx]; done) | (rw [cntF_no (q := qPinned) (by simp [qPinned]; omega)]; exact hx)
        case measure => simp [intOf]; omega
    · clear ha hb hx hbl
      go_wp2
      go_ret3
      obtain ⟨ha, hb, hx, hbl⟩ := HAB.out
      obtain rfl : n = k := by omega
      exact ⟨by rw [← ha, ← hb, ← hx]; rfl, hbl⟩
end
end Go.Proofs.Ytalnlkcmkchjdaa
