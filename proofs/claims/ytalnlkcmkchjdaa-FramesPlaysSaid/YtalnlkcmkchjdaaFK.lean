/- The law's own known. -/
import Derived.Test.YtalnlkcmkchjdaaFG
namespace Go.Proofs.Ytalnlkcmkchjdaa
open Go.RowKit Go.Maps
set_option linter.unusedVariables false
set_option linter.unusedSimpArgs false

theorem below_off {W w w' : World} {P B M : Nat} (hb : Below W.heap.size W w) (ho : Off (PB P B M) w w') (h1 : W.heap.size ≤ P) (h2 : W.heap.size ≤ B) (h3 : W.heap.size ≤ M) : Below W.heap.size W w' :=
  hb.trans (ho.below (fun k hk => by rcases hk with rfl | rfl | rfl <;> assumption) hb.size)

def kr1 : TakeR := takeR 2 (fun _ => Fr.zero) 0 (fun _ => none) 7
def kr2 : TakeR := takeR 2 kr1.F kr1.h kr1.g 8
def kr3 : TakeR := takeR 2 kr2.F kr2.h kr2.g 9
theorem kr3_frame : kr3.frame = 0 := by decide +kernel
theorem kr3_e : kr3.e = 0 := by decide +kernel
theorem kr3_given : kr3.given = true := by decide +kernel
theorem kr3_key : kr3.out.key = 7 := by decide +kernel
theorem kr3_h : kr3.h = 1 := by decide +kernel

set_option maxHeartbeats 1000000 in
theorem known_any (w : World) : Calls Try.prog 7 #[] w fun e w' => e = .returned (.bool true) ∧ Below w.heap.size w w' := by
  go_enter Try.func7, Try.ntmps7
  go_wp2_with fail
  refine (New_any w 2 (by omega) (by omega)).mono ?_
  rintro e w1 ⟨P, B, M, rfl, p1, hP, hB, hM, hb1⟩
  have HP1 := Lib.hid p1
  have HB1 := Lib.hid hb1
  clear p1 hb1
  go_wp2_with fail
  refine (Take_any (key := 7) HP1.out (by decide)).mono ?_
  rintro e w2 ⟨rfl, ⟨c2, p2⟩, o2⟩
  have HP2 : Hid (PoolAt w2 P B M 2 kr1.F kr1.h kr1.g c2) := p2
  have HB2 := Lib.hid (below_off HB1.out o2 hP hB hM)
  clear p2 o2
  go_wp2_with fail
  refine (Take_any (key := 8) HP2.out (by decide)).mono ?_
  rintro e w3 ⟨rfl, ⟨c3, p3⟩, o3⟩
  have HP3 : Hid (PoolAt w3 P B M 2 kr2.F kr2.h kr2.g c3) := p3
  have HB3 := Lib.hid (below_off HB2.out o3 hP hB hM)
  clear p3 o3
  go_wp2_with fail
  refine (Take_any (key := 9) HP3.out (by decide)).mono ?_
  rintro e w4 ⟨rfl, ⟨c4, p4⟩, o4⟩
  have HP4 : Hid (PoolAt w4 P B M 2 kr3.F kr3.h kr3.g c4) := p4
  have HB4 := Lib.hid (below_off HB3.out o4 hP hB hM)
  clear p4 o4
  rw [show takeR 2 kr2.F kr2.h kr2.g 9 = kr3 from rfl]
  unfold TakeR.val Fr.val
  rw [kr3_frame, kr3_e, kr3_given, kr3_key]
  have HPX := Lib.hid (HP4.out.up ((Below.refl _ _).alloc (Nat.le_refl _) (.cells #[.int .i64 7, .bool kr3.out.used, .bool kr3.out.ref, .bool kr3.out.dirty, .int .i64 kr3.out.pins] 28)))
  go_wp2_with fail
  refine (Hand_any HPX.out).mono ?_
  rintro e w5 ⟨rfl, rfl⟩
  rw [kr3_h]
  go_wp2
  go_ret
  exact ⟨rfl, HB4.out.alloc HB4.out.size _⟩
end Go.Proofs.Ytalnlkcmkchjdaa
