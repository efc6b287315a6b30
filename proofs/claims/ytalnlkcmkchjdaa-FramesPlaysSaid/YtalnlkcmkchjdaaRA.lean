/- The reference's pool in memory; New, is, Find, At, Count. -/
import Derived.Test.YtalnlkcmkchjdaaKO
namespace Go.Proofs.Ytalnlkcmkchjdaa
open Go.RowKit Go.Maps
set_option linter.unusedVariables false
set_option linter.unusedSimpArgs false

/-- The reference's pool at P, its n frames at B. -/
structure RefAt (w : World) (P B n K : Nat) (F : Nat → Fr) (h : Nat) : Prop where
  l0 : w.cell? ⟨P, 0, none⟩ = some (.slice (some ⟨B, 0, none⟩) n K)
  l1 : w.cell? ⟨P, 1, none⟩ = some (.int .i64 h)
  lz : ∀ i, w.frozen? ⟨P, i, none⟩ = false
  fr : FrS w B n F
  fz : ∀ j, w.frozen? ⟨B, j, none⟩ = false
  ne : P ≠ B
  pos : 0 < n
  most : n ≤ 4096
  hand : h < n
/-- The blocks of the reference's pool. -/
def RB (P B : Nat) : Nat → Prop := fun k => k = P ∨ k = B

section
variable {w w' : World} {P B n K : Nat} {F F' : Nat → Fr} {h : Nat}
theorem RefAt.ltP (p : RefAt w P B n K F h) : P < w.heap.size := lt_of_cell p.l0
theorem RefAt.ltB (p : RefAt w P B n K F h) : B < w.heap.size := lt_of_cell (p.fr 0 p.pos).c0
theorem RefAt.off {S : Nat → Prop} (p : RefAt w P B n K F h) (ho : Off S w w') (h1 : ¬ S P) (h2 : ¬ S B) : RefAt w' P B n K F h where
  l0 := (ho.cell p.ltP h1).trans p.l0
  l1 := (ho.cell p.ltP h1).trans p.l1
  lz := fun i => (ho.frozen p.ltP h1).trans (p.lz i)
  fr := fun i hi => ⟨(ho.cell p.ltB h2).trans (p.fr i hi).c0, (ho.cell p.ltB h2).trans (p.fr i hi).c1, (ho.cell p.ltB h2).trans (p.fr i hi).c2, (ho.cell p.ltB h2).trans (p.fr i hi).c3, (ho.cell p.ltB h2).trans (p.fr i hi).c4⟩
  fz := fun j => (ho.frozen p.ltB h2).trans (p.fz j)
  ne := p.ne
  pos := p.pos
  most := p.most
  hand := p.hand
theorem RefAt.up (p : RefAt w P B n K F h) (hb : Below w.heap.size w w') : RefAt w' P B n K F h := p.off (S := fun _ => False) (Off.of_below hb) id id
theorem RefAt.drew (p : RefAt w P B n K F h) : RefAt w.drew P B n K F h := p.up (Below.refl _ _).drew
/-- The frames have changed alone. -/
theorem RefAt.frames (p : RefAt w P B n K F h) (hf : FrS w' B n F') (hz : ∀ j, w'.frozen? ⟨B, j, none⟩ = false) (ho : Off (· = B) w w') : RefAt w' P B n K F' h where
  l0 := (ho.cell p.ltP p.ne).trans p.l0
  l1 := (ho.cell p.ltP p.ne).trans p.l1
  lz := fun i => (ho.frozen p.ltP p.ne).trans (p.lz i)
  fr := hf
  fz := hz
  ne := p.ne
  pos := p.pos
  most := p.most
  hand := p.hand
/-- The hand has moved. -/
theorem RefAt.moved {h' : Nat} (p : RefAt w P B n K F h) (hh : h' < n) : RefAt (w.setCell ⟨P, 1, none⟩ (.int .i64 h')) P B n K F h' where
  l0 := (World.cell?_setCell_other _ _ _ _ (by simp)).trans p.l0
  l1 := World.cell?_setCell_same _ _ _ p.l1
  lz := fun i => by rw [World.frozen?_setCell]; exact p.lz i
  fr := fun i hi => by
    have hne : ∀ o, (⟨P, 1, none⟩ : Addr) ≠ ⟨B, o, none⟩ := fun o e => p.ne (by injection e)
    exact ⟨(World.cell?_setCell_other _ _ _ _ (hne _)).trans (p.fr i hi).c0, (World.cell?_setCell_other _ _ _ _ (hne _)).trans (p.fr i hi).c1, (World.cell?_setCell_other _ _ _ _ (hne _)).trans (p.fr i hi).c2, (World.cell?_setCell_other _ _ _ _ (hne _)).trans (p.fr i hi).c3, (World.cell?_setCell_other _ _ _ _ (hne _)).trans (p.fr i hi).c4⟩
  fz := fun j => by rw [World.frozen?_setCell]; exact p.fz j
  ne := p.ne
  pos := p.pos
  most := p.most
  hand := hh
theorem RefAt.put {k : Nat} {f : Fr} (p : RefAt w P B n K F h) (hk : k < n) :
    RefAt (((((w.setCell ⟨B, k * 5, none⟩ (.int .i64 f.key)).setCell ⟨B, k * 5 + 1, none⟩ (.bool f.used)).setCell ⟨B, k * 5 + 2, none⟩ (.bool f.ref)).setCell ⟨B, k * 5 + 3, none⟩ (.bool f.dirty)).setCell ⟨B, k * 5 + 4, none⟩ (.int .i64 f.pins)) P B n K (putF F k f) h := by
  refine p.frames (FrS.put p.fr hk) (fun j => by simp only [World.frozen?_setCell]; exact p.fz j) ?_
  exact (((((Off.refl (· = B) w).setCell (p := ⟨B, k * 5, none⟩) rfl _).setCell (p := ⟨B, k * 5 + 1, none⟩) rfl _).setCell (p := ⟨B, k * 5 + 2, none⟩) rfl _).setCell (p := ⟨B, k * 5 + 3, none⟩) rfl _).setCell (p := ⟨B, k * 5 + 4, none⟩) rfl _
theorem RefAt.set {k s : Nat} {v : Value} {f : Fr} (p : RefAt w P B n K F h) (hk : k < n) (hs : s < 5) (hs0 : s ≠ 0)
    (h0 : f.key = (F k).key) (h1 : s ≠ 1 → f.used = (F k).used) (h2 : s ≠ 2 → f.ref = (F k).ref) (h3 : s ≠ 3 → f.dirty = (F k).dirty) (h4 : s ≠ 4 → f.pins = (F k).pins)
    (e1 : s = 1 → v = .bool f.used) (e2 : s = 2 → v = .bool f.ref) (e3 : s = 3 → v = .bool f.dirty) (e4 : s = 4 → v = .int .i64 f.pins) :
    RefAt (w.setCell ⟨B, k * 5 + s, none⟩ v) P B n K (putF F k f) h :=
  p.frames (FrS.set p.fr hk hs (fun _ => h0) h1 h2 h3 h4 (fun e => absurd e hs0) e1 e2 e3 e4) (fun j => by rw [World.frozen?_setCell]; exact p.fz j) ((Off.refl (· = B) w).setCell (p := ⟨B, k * 5 + s, none⟩) rfl _)
end

/-- A method of the reference that answers an error and changes its pool. -/
def ROpPost (P B n K : Nat) (e0 : Int) (F : Nat → Fr) (h : Nat) (w : World) (e : Ending) (w' : World) : Prop :=
  e = .returned (.int .i64 e0) ∧ RefAt w' P B n K F h ∧ Off (RB P B) w w'

theorem rframe_info : (Try.prog.info? 67).map (fun i => (i.zero, i.size, i.bytes)) = some (some (.agg #[.int .i64 0, .bool false, .bool false, .bool false, .int .i64 0]), 5, 24) := by kernel_rfl

theorem run_make_rframes (n : Nat) (hn : n ≤ 4096) (w : World) :
    (Instr.makeSlice 64 (.int .i64 (n : Int)) (.int .i64 (n : Int))).run Try.prog w = .ok (.slice (some ⟨w.heap.size, 0, none⟩) n n) (w.alloc (.cells (zeroCells n) 67)) := by
  obtain ⟨i0, hi, hz0, hz1, hz2⟩ := info_parts rframe_info
  have h := run_make (P := Try.prog) w 64 67 i0 _ Try.underlying64 hi hz0 .i64 .i64 n n (by omega) (by omega) (by rw [hz2]; omega) (by omega)
  rw [h]
  simp [hz1, Value.cells, zeroCells]

def RNewPost (n : Nat) (w : World) (e : Ending) (w' : World) : Prop :=
  ∃ P B, e = .returned (.tuple #[.pointer (some ⟨P, 0, none⟩), .int .i64 0]) ∧ RefAt w' P B n n (fun _ => Fr.zero) 0 ∧ w.heap.size ≤ P ∧ w.heap.size ≤ B ∧ Below w.heap.size w w'

theorem new_ref (w : World) (n : Nat) (h1 : 0 < n) (h2 : n ≤ 4096) (t : TypeId) :
    RefAt ((w.alloc (.cells (zeroCells n) 67)).alloc (.cells #[.slice (some ⟨w.heap.size, 0, none⟩) n n, .int .i64 0] t)) (w.heap.size + 1) w.heap.size n n (fun _ => Fr.zero) 0 := by
  obtain ⟨w1, hw1⟩ : ∃ w1, w1 = w.alloc (.cells (zeroCells n) 67) := ⟨_, rfl⟩
  rw [← hw1]
  have s1 : w1.heap.size = w.heap.size + 1 := by rw [hw1]; simp
  have b0 : w1.heap[w.heap.size]? = some (.cells (zeroCells n) 67 (0, 0)) := by rw [hw1]; exact heap_alloc_new w _
  generalize hw3 : w1.alloc (.cells #[.slice (some ⟨w.heap.size, 0, none⟩) n n, .int .i64 0] t) = w3
  have b3 : w3.heap[w.heap.size + 1]? = some (.cells #[.slice (some ⟨w.heap.size, 0, none⟩) n n, .int .i64 0] t (0, 0)) := by rw [← hw3, ← s1]; exact heap_alloc_new w1 _
  have b03 : w3.heap[w.heap.size]? = some (.cells (zeroCells n) 67 (0, 0)) := by rw [← hw3, Below.heap_alloc _ _ _ (by omega)]; exact b0
  refine ⟨?_, ?_, fun i => ?_, fun i hi => ?_, fun j => ?_, by omega, h1, h2, h1⟩
  · rw [cell_of_row _ _ _ _ _ _ b3]; rfl
  · rw [cell_of_row _ _ _ _ _ _ b3]; rfl
  · simp [World.frozen?, b3]
  · obtain ⟨z0, z1, z2, z3, z4⟩ := zero_at n i hi
    refine ⟨?_, ?_, ?_, ?_, ?_⟩
    all_goals rw [cell_of_row _ _ _ _ _ _ b03]
    all_goals assumption
  · simp [World.frozen?, b03]

set_option maxHeartbeats 400000 in
theorem RNew_any (w : World) (n : Nat) (h1 : 0 < n) (h2 : n ≤ 4096) : Calls Try.prog 17 #[.int .i64 n] w (RNewPost n w) := by
  have hmk := run_make_rframes n h2
  have HX : Hid (∀ t W, W = ((w.alloc (.cells (zeroCells n) 67)).alloc (.cells #[.slice (some ⟨w.heap.size, 0, none⟩) n n, .int .i64 0] t)) → ∀ e, e = .returned (.tuple #[.pointer (some ⟨w.heap.size + 1, 0, none⟩), .int .i64 0]) → RNewPost n w e W) := by
    rintro t W rfl e rfl
    exact ⟨_, _, rfl, new_ref w n h1 h2 t, by omega, by omega, ((Below.refl _ _).alloc (Nat.le_refl _) _).alloc (by simp) _⟩
  go_enter Try.func17, Try.ntmps17
  go_wp2
  go_ret2
  exact HX.out _ _ rfl _ rfl
set_option maxHeartbeats 400000 in
theorem RNew_bad (w : World) (n : Int) (hn : n < 1 ∨ 4096 < n) : Calls Try.prog 17 #[.int .i64 n] w fun e w' => e = .returned (.tuple #[.pointer none, .int .i64 1]) ∧ w = w' := by
  rcases hn with h | h
  · go_enter Try.func17, Try.ntmps17
    go_wp2
    go_ret2
    exact ⟨rfl, rfl⟩
  · have h' : ¬ n < 1 := by omega
    go_enter Try.func17, Try.ntmps17
    go_wp2
    go_ret2
    exact ⟨rfl, rfl⟩
set_option maxHeartbeats 400000 in
theorem New_bad (w : World) (n : Int) (hn : n < 1 ∨ 4096 < n) : Calls Try.prog 8 #[.int .i64 n] w fun e w' => e = .returned (.tuple #[.pointer none, .int .i64 1]) ∧ w = w' := by
  rcases hn with h | h
  · go_enter Try.func8, Try.ntmps8
    go_wp2
    go_ret2
    exact ⟨rfl, rfl⟩
  · have h' : ¬ n < 1 := by omega
    go_enter Try.func8, Try.ntmps8
    go_wp2
    go_ret2
    exact ⟨rfl, rfl⟩

section
variable {w : World} {P B n K : Nat} {F : Nat → Fr} {h : Nat}
set_option maxHeartbeats 400000 in
theorem is_yes (p : RefAt w P B n K F h) (f : Nat) (hf : f < n) (hu : (F f).used = true) :
    Calls Try.prog 41 #[.pointer (some ⟨P, 0, none⟩), .int .i64 f] w fun e w' => e = .returned (.bool true) ∧ w = w' := by
  have l0 := p.l0
  have c1 := (p.fr f hf).c1
  rw [hu] at c1
  have hn := p.most
  clear hu
  go_enter Try.func41, Try.ntmps41
  go_wp2
  go_ret
  exact ⟨rfl, rfl⟩
set_option maxHeartbeats 400000 in
theorem is_no (p : RefAt w P B n K F h) (f : Int) (hf : f < 0 ∨ (n : Int) ≤ f ∨ (F f.toNat).used = false) :
    Calls Try.prog 41 #[.pointer (some ⟨P, 0, none⟩), .int .i64 f] w fun e w' => e = .returned (.bool false) ∧ w = w' := by
  have l0 := p.l0
  have hn := p.most
  by_cases h1 : f < 0
  · clear hf
    go_enter Try.func41, Try.ntmps41
    go_wp2
    go_ret
    exact ⟨rfl, rfl⟩
  · obtain ⟨k, rfl⟩ := Int.eq_ofNat_of_zero_le (Int.not_lt.1 h1)
    by_cases h2 : n ≤ k
    · clear hf
      go_enter Try.func41, Try.ntmps41
      go_wp2
      go_ret
      exact ⟨rfl, rfl⟩
    · have hu : (F k).used = false := by
        rcases hf with h | h | h
        · omega
        · omega
        · simpa using h
      have c1 := (p.fr k (by omega)).c1
      rw [hu] at c1
      clear hf hu
      go_enter Try.func41, Try.ntmps41
      go_wp2
      go_ret
      exact ⟨rfl, rfl⟩

/-- Which frame a key uses, in the reference's way. -/
def refFind (n : Nat) (F : Nat → Fr) (key : Int) : Int := first (fun i => (F i).used && (F i).key == key) n
def rfindV (n : Nat) (F : Nat → Fr) (key : Int) : Value := .tuple #[.int .i64 (if 0 ≤ refFind n F key then refFind n F key else 0), .bool (decide (0 ≤ refFind n F key))]

set_option maxHeartbeats 1000000 in
theorem RFind_any (p : RefAt w P B n K F h) (key : Int) :
    Calls Try.prog 36 #[.pointer (some ⟨P, 0, none⟩), .int .i64 key] w fun e w' => e = .returned (rfindV n F key) ∧ w = w' := by
  have l0 := p.l0
  have hn := p.most
  have HP := Lib.hid p
  clear p
  go_enter Try.func36, Try.ntmps36
  go_wp2
  go_loop [6] (fun i => ∃ k : Nat, k ≤ n ∧ i = .int .i64 k ∧ (∀ j, j < k → ((F j).used && (F j).key == key) = false)) (fun i => n - (intOf i).toNat)
  case atStart => exact ⟨0, Nat.zero_le _, rfl, fun j h => by omega⟩
  case round =>
    obtain ⟨k, hk, rfl, hno⟩ := hrel
    have HN := Lib.hid hno
    clear hno
    by_cases hlt : k < n
    · obtain ⟨c0, c1, c2, c3, c4⟩ := HP.out.fr k hlt
      cases hu : (F k).used
      · rw [hu] at c1
        have hq : Hid (((F k).used && (F k).key == key) = false) := by show _ = _; rw [hu]; rfl
        clear hu
        go_wp2
        go_round
        case rel =>
          refine ⟨k + 1, by omega, by go_num, fun j hj => ?_⟩
          rcases Nat.lt_or_ge j k with h | h
          · exact HN.out j h
          · have : j = k := by omega
            subst this; exact hq.out
        case measure => simp [intOf]; omega
      · rw [hu] at c1
        cases hq : ((F k).key == key)
        · have hq' : Hid (((F k).used && (F k).key == key) = false) := by show _ = _; rw [hu, hq]; rfl
          clear hu
          go_wp2
          go_round
          case rel =>
            refine ⟨k + 1, by omega, by go_num, fun j hj => ?_⟩
            rcases Nat.lt_or_ge j k with h | h
            · exact HN.out j h
            · have : j = k := by omega
              subst this; exact hq'.out
          case measure => simp [intOf]; omega
        · have hq' : Hid (((F k).used && (F k).key == key) = true) := by show _ = _; rw [hu, hq]; rfl
          clear hu
          go_wp2
          go_ret2
          have e : refFind n F key = k := first_is (q := fun i => (F i).used && (F i).key == key) hlt hq'.out HN.out
          refine ⟨?_, rfl⟩
          unfold rfindV
          rw [e, if_pos (by omega), decide_eq_true (by omega)]
          rfl
    · have e : Hid (refFind n F key = -1) := first_none (q := fun i => (F i).used && (F i).key == key) (fun i hi => HN.out i (by omega))
      go_wp2
      go_ret2
      refine ⟨?_, rfl⟩
      unfold rfindV
      rw [e.out]
      rfl

set_option maxHeartbeats 1000000 in
theorem RAt_yes (p : RefAt w P B n K F h) (f : Nat) (hf : f < n) :
    Calls Try.prog 35 #[.pointer (some ⟨P, 0, none⟩), .int .i64 f] w (AtPost (F f) 0 w) := by
  have l0 := p.l0
  have hn := p.most
  obtain ⟨c0, c1, c2, c3, c4⟩ := p.fr f hf
  have ltP := p.ltP
  have ltB := p.ltB
  have q1 : P < w.heap.size + 1 := by omega
  have q2 : B < w.heap.size + 1 := by omega
  clear p
  go_enter Try.func35, Try.ntmps35
  go_wp2
  refine bodyPost_ret (v := .tuple #[.agg #[.int .i64 (F f).key, .bool (F f).used, .bool (F f).ref, .bool (F f).dirty, .int .i64 (F f).pins], .int .i64 0]) (by simp [results, Try.results35, go_sem]) rfl ⟨rfl, ?_⟩
  go_grown
set_option maxHeartbeats 1000000 in
theorem RAt_no (p : RefAt w P B n K F h) (f : Int) (hf : f < 0 ∨ (n : Int) ≤ f) :
    Calls Try.prog 35 #[.pointer (some ⟨P, 0, none⟩), .int .i64 f] w (AtPost Fr.zero 2 w) := by
  have l0 := p.l0
  have hn := p.most
  have ltP := p.ltP
  clear p
  rcases hf with hf | hf
  all_goals
    go_enter Try.func35, Try.ntmps35
    go_wp2
    all_goals
      refine bodyPost_ret (v := .tuple #[.agg #[.int .i64 0, .bool false, .bool false, .bool false, .int .i64 0], .int .i64 2]) (by simp [results, Try.results35, go_sem]) rfl ⟨rfl, ?_⟩
      go_grown

set_option maxHeartbeats 2000000 in
theorem RCount_any (p : RefAt w P B n K F h) :
    Calls Try.prog 37 #[.pointer (some ⟨P, 0, none⟩)] w fun e w' => e = .returned (.tuple #[.int .i64 (cntF qUsed F n : Nat), .int .i64 (cntF qDirty F n : Nat), .int .i64 (cntF qPinned F n : Nat)]) ∧ w = w' := by
  have l0 := p.l0
  have hn := p.most
  have HP := Lib.hid p
  clear p
  go_enter Try.func37, Try.ntmps37
  go_wp2
  go_loop [5, 6, 7, 8] (fun u d q i => ∃ (k a b x : Nat), k ≤ n ∧ i = .int .i64 k ∧ u = .int .i64 a ∧ d = .int .i64 b ∧ q = .int .i64 x ∧ a = cntF qUsed F k ∧ b = cntF qDirty F k ∧ x = cntF qPinned F k) (fun _ _ _ i => n - (intOf i).toNat)
  case atStart => exact ⟨0, 0, 0, 0, Nat.zero_le _, rfl, rfl, rfl, rfl, rfl, rfl, rfl⟩
  case round =>
    obtain ⟨k, a, b, x, hk, rfl, rfl, rfl, rfl, ha, hb, hx⟩ := hrel
    have a1 := cntF_le qUsed F k
    have b1 := cntF_le qDirty F k
    have x1 := cntF_le qPinned F k
    rw [← ha] at a1
    rw [← hb] at b1
    rw [← hx] at x1
    have HAB : Hid (a = cntF qUsed F k ∧ b = cntF qDirty F k ∧ x = cntF qPinned F k) := ⟨ha, hb, hx⟩
    clear ha hb hx
    by_cases hlt : k < n
    · obtain ⟨c0, c1, c2, c3, c4⟩ := HP.out.fr k hlt
      cases hu : (F k).used <;> cases hd : (F k).dirty <;> by_cases hp : 0 < (F k).pins
      all_goals
        go_wp2
        go_round
        case rel =>
          obtain ⟨ha, hb, hx⟩ := HAB.out
          refine ⟨k + 1, _, _, _, by omega, by go_num, by first | rfl | go_num, by first | rfl | go_num, by first | rfl | go_num, ?_, ?_, ?_⟩
          · first | (rw [cntF_yes (q := qUsed) hu, ← ha]; done) | (rw [cntF_no (q := qUsed) hu]; exact ha)
          · first | (rw [cntF_yes (q := qDirty) hd, ← hb]; done) | (rw [cntF_no (q := qDirty) hd]; exact hb)
          · first | (rw [cntF_yes (q := qPinned) (by simp [qPinned, hp]), ← hx]; done) | (rw [cntF_no (q := qPinned) (by simp [qPinned]; omega)]; exact hx)
        case measure => simp [intOf]; omega
    · go_wp2
      go_ret3
      obtain ⟨ha, hb, hx⟩ := HAB.out
      obtain rfl : n = k := by omega
      exact ⟨by rw [← ha, ← hb, ← hx]; rfl, rfl⟩
end
end Go.Proofs.Ytalnlkcmkchjdaa
