/- The reference's Take. -/
import Derived.Test.YtalnlkcmkchjdaaRB
namespace Go.Proofs.Ytalnlkcmkchjdaa
open Go.RowKit Go.Maps
set_option linter.unusedVariables false
set_option linter.unusedSimpArgs false

/-- A frame of the reference in a block of its own. -/
def RRow (w : World) (R : Nat) (f : Fr) : Prop := w.heap[R]? = some (.cells #[.int .i64 f.key, .bool f.used, .bool f.ref, .bool f.dirty, .int .i64 f.pins] 67 (0, 0))
theorem RRow.frozen {w : World} {R : Nat} {f : Fr} (h : RRow w R f) (i : Nat) : w.frozen? ⟨R, i, none⟩ = false := by
  unfold RRow at h
  simp [World.frozen?, h]
theorem RRow.lt {w : World} {R : Nat} {f : Fr} (h : RRow w R f) : R < w.heap.size := (Array.getElem?_eq_some_iff.1 h).1
theorem RRow.off {w w' : World} {R : Nat} {f : Fr} {S : Nat → Prop} (h : RRow w R f) (ho : Off S w w') (hs : ¬ S R) : RRow w' R f := (ho.block R h.lt hs).trans h
theorem RRow.cells {w : World} {R : Nat} {f : Fr} (h : RRow w R f) : w.cell? ⟨R, 0, none⟩ = some (.int .i64 f.key) ∧ w.cell? ⟨R, 1, none⟩ = some (.bool f.used) ∧ w.cell? ⟨R, 2, none⟩ = some (.bool f.ref) ∧ w.cell? ⟨R, 3, none⟩ = some (.bool f.dirty) ∧ w.cell? ⟨R, 4, none⟩ = some (.int .i64 f.pins) := by
  simp only [cell_of_row _ _ _ _ _ _ h]
  exact ⟨rfl, rfl, rfl, rfl, rfl⟩

def RTakePost (P B n K : Nat) (r : TakeR) (w : World) (e : Ending) (w' : World) : Prop :=
  e = .returned r.val ∧ RefAt w' P B n K r.F r.h ∧ Off (RB P B) w w'
theorem rtake_done {w w3 W : World} {P B n K R : Nat} {r : TakeR} {e : Ending} (p : RefAt w3 P B n K r.F r.h) (o : Off (RB P B) w w3) (h1 : R ≠ P) (h2 : R ≠ B) (hR : w.heap.size ≤ R) (he : e = .returned r.val) (ho : Off (· = R) w3 W) : RTakePost P B n K r w e W :=
  ⟨he, p.off ho (fun e => h1 e.symm) (fun e => h2 e.symm), o.late ho (fun i hi e => by omega)⟩

theorem refFind_some {n : Nat} {F : Nat → Fr} {g : Int → Option Nat} {key : Int} {j : Nat} (G : Good n F g) (hg : g key = some j) : refFind n F key = j := by
  obtain ⟨h1, h2, h3⟩ := G.b key j hg
  refine first_is h1 (by simp [h2, h3]) fun i hi => ?_
  cases hu : (F i).used
  · rfl
  · by_cases he : (F i).key = key
    · have := G.a i (by omega) hu
      rw [he, hg] at this
      have := Option.some.inj this
      omega
    · simp [he]
theorem refFind_none {n : Nat} {F : Nat → Fr} {g : Int → Option Nat} {key : Int} (G : Good n F g) (hg : g key = none) : refFind n F key = -1 := by
  refine first_none fun i hi => ?_
  cases hu : (F i).used
  · rfl
  · by_cases he : (F i).key = key
    · have := G.a i hi hu
      rw [he, hg] at this
      cases this
    · simp [he]
/-- Find: the program's answer is the reference's. -/
theorem find_same {n : Nat} {F : Nat → Fr} {g : Int → Option Nat} (G : Good n F g) (key : Int) : rfindV n F key = findV g key := by
  unfold rfindV findV findI
  cases hg : g key with
  | none => rw [refFind_none G hg]; rfl
  | some j =>
    rw [refFind_some G hg, if_pos (by omega), decide_eq_true (by omega)]
    rfl

section
variable {w : World} {P B n K : Nat} {F : Nat → Fr} {h : Nat} {g : Int → Option Nat} {key : Int}

set_option maxHeartbeats 1000000 in
theorem RTake_used (p : RefAt w P B n K F h) (G : Good n F g) (hg : (g key).isSome = true) :
    Calls Try.prog 27 #[.pointer (some ⟨P, 0, none⟩), .int .i64 key] w (RTakePost P B n K (takeR n F h g key) w) := by
  have HP := Lib.hid p
  have HR : Hid (takeR n F h g key = ⟨0, Fr.zero, false, 3, F, h, g⟩) := by unfold takeR; rw [if_pos hg]; rfl
  have p0 : RefAt (w.alloc (.cells #[.int .i64 0, .bool false, .bool false, .bool false, .int .i64 0] 67)) P B n K F h := p.up ((Below.refl _ _).alloc (Nat.le_refl _) _)
  have HF := Lib.hid (RFind_any p0 key)
  rw [find_same G] at HF
  clear p p0 G
  go_enter Try.func27, Try.ntmps27
  go_wp2_with fail
  refine HF.out.mono ?_
  rintro e w1 ⟨rfl, rfl⟩
  unfold findV
  rw [hg]
  go_wp2
  refine bodyPost_ret (v := .tuple #[.int .i64 0, .agg #[.int .i64 0, .bool false, .bool false, .bool false, .int .i64 0], .bool false, .int .i64 3]) (by simp [results, Try.results27, go_sem]) rfl ?_
  rw [HR.out]
  refine ⟨rfl, ?_, ?_⟩
  · exact HP.out.up (by go_grown)
  · exact Off.of_below (by go_grown)

set_option maxHeartbeats 4000000 in
theorem RTake_free {j : Nat} (p : RefAt w P B n K F h) (G : Good n F g) (hg : (g key).isSome = false) (hj : freeAt F n = j) (hjn : j < n) (hju : (F j).used = false) (hall : ∀ i, i < j → (F i).used = true) :
    Calls Try.prog 27 #[.pointer (some ⟨P, 0, none⟩), .int .i64 key] w (RTakePost P B n K (takeR n F h g key) w) := by
  have HR : Hid (takeR n F h g key = ⟨j, Fr.zero, false, 0, putF F j (Fr.new key), h, upd g key (some j)⟩) := by unfold takeR; rw [if_neg (by rw [hg]; exact Bool.false_ne_true), hj, if_pos (by omega)]; rfl
  have p0 : RefAt (w.alloc (.cells #[.int .i64 0, .bool false, .bool false, .bool false, .int .i64 0] 67)) P B n K F h := p.up ((Below.refl _ _).alloc (Nat.le_refl _) _)
  have HF := Lib.hid (RFind_any p0 key)
  rw [find_same G] at HF
  have HX : Hid (RefAt (w.alloc (.cells #[.int .i64 0, .bool false, .bool false, .bool false, .int .i64 0] 67)) P B n K F h ∧ RRow (w.alloc (.cells #[.int .i64 0, .bool false, .bool false, .bool false, .int .i64 0] 67)) w.heap.size Fr.zero ∧ Off (RB P B) w (w.alloc (.cells #[.int .i64 0, .bool false, .bool false, .bool false, .int .i64 0] 67))) :=
    ⟨p0, heap_alloc_new w _, Off.of_below ((Below.refl _ _).alloc (Nat.le_refl _) _)⟩
  have hn := p.most
  have ltP := p.ltP
  have ltB := p.ltB
  have HA := Lib.hid hall
  have HJ := Lib.hid hju
  clear p p0 G hj hall hju
  go_enter Try.func27, Try.ntmps27
  go_wp2_with fail
  refine HF.out.mono ?_
  rintro e w1 ⟨rfl, rfl⟩
  unfold findV
  rw [hg]
  go_upto_region 4 with (fail)
  refine wp_forget (fun W => RefAt W P B n K F h ∧ RRow W w.heap.size Fr.zero ∧ Off (RB P B) w W) HX.out ?_
  clear HX HF hg
  rintro w2 ⟨p, r, o⟩
  have l0 := p.l0
  have HP := Lib.hid p
  have HRR := Lib.hid r
  have HO := Lib.hid o
  clear p r o
  go_wp2_with fail
  go_loop [10] (fun i => ∃ k : Nat, k ≤ j ∧ i = .int .i64 k) (fun i => n - (intOf i).toNat)
  case atStart => exact ⟨0, Nat.zero_le _, rfl⟩
  case round =>
    obtain ⟨k, hk, rfl⟩ := hrel
    obtain ⟨c0, c1, c2, c3, c4⟩ := HP.out.fr k (by omega)
    have hkn : k < n := by omega
    by_cases hkj : k < j
    · rw [HA.out k hkj] at c1
      go_wp2
      go_round
      case rel => exact ⟨k + 1, by omega, by go_num⟩
      case measure => simp [intOf]; omega
    · obtain rfl : j = k := by omega
      rw [HJ.out] at c1
      have z0 := HP.out.fz (j * 5)
      have z1 := HP.out.fz (j * 5 + 1)
      have z2 := HP.out.fz (j * 5 + 2)
      have z3 := HP.out.fz (j * 5 + 3)
      have z4 := HP.out.fz (j * 5 + 4)
      have HX : Hid (∀ W, W = (((((w2.setCell ⟨B, j * 5, none⟩ (.int .i64 key)).setCell ⟨B, j * 5 + 1, none⟩ (.bool true)).setCell ⟨B, j * 5 + 2, none⟩ (.bool true)).setCell ⟨B, j * 5 + 3, none⟩ (.bool false)).setCell ⟨B, j * 5 + 4, none⟩ (.int .i64 0)) → RefAt W P B n K (putF F j (Fr.new key)) h ∧ RRow W w.heap.size Fr.zero ∧ Off (RB P B) w W) := by
        rintro W rfl
        have hB : ∀ o, RB P B (⟨B, o, none⟩ : Addr).block := fun o => .inr rfl
        have hR : w.heap.size ≠ B := by omega
        refine ⟨HP.out.put (f := Fr.new key) hjn, ?_, ((((HO.out.setCell (hB _) _).setCell (hB _) _).setCell (hB _) _).setCell (hB _) _).setCell (hB _) _⟩
        unfold RRow
        rw [Below.heap_setCell _ _ _ _ hR, Below.heap_setCell _ _ _ _ hR, Below.heap_setCell _ _ _ _ hR, Below.heap_setCell _ _ _ _ hR, Below.heap_setCell _ _ _ _ hR]
        exact HRR.out
      go_upto_region 9 with (fail)
      refine wp_forget (fun W => RefAt W P B n K (putF F j (Fr.new key)) h ∧ RRow W w.heap.size Fr.zero ∧ Off (RB P B) w W) (HX.out _ rfl) ?_
      clear HX HP HRR HO c0 c1 c2 c3 c4 z0 z1 z2 z3 z4 l0
      rintro w3 ⟨p, r, o⟩
      obtain ⟨d0, d1, d2, d3, d4⟩ := r.cells
      have y0 := r.frozen 0
      have y1 := r.frozen 1
      have y2 := r.frozen 2
      have y3 := r.frozen 3
      have y4 := r.frozen 4
      have HP := Lib.hid p
      have HO := Lib.hid o
      clear p r o
      simp only [Fr.zero] at d0 d1 d2 d3 d4
      go_wp2
      refine bodyPost_ret (v := .tuple #[.int .i64 j, .agg #[.int .i64 0, .bool false, .bool false, .bool false, .int .i64 0], .bool false, .int .i64 0]) (by simp [results, Try.results27, go_sem, d0, d1, d2, d3, d4]) rfl ?_
      rw [HR.out]
      refine rtake_done HP.out HO.out (R := w.heap.size) (by omega) (by omega) (Nat.le_refl _) rfl ?_
      exact off_out _ _ _ _ _ _ _

set_option maxHeartbeats 4000000 in
theorem RTake_full (p : RefAt w P B n K F h) (G : Good n F g) (hg : (g key).isSome = false) (hall : ∀ i, i < n → (F i).used = true) (hlo : loose F n = false) :
    Calls Try.prog 27 #[.pointer (some ⟨P, 0, none⟩), .int .i64 key] w (RTakePost P B n K (takeR n F h g key) w) := by
  have hj : freeAt F n = -1 := first_none fun i hi => by simp [hall i hi]
  have HR : Hid (takeR n F h g key = ⟨0, Fr.zero, false, 10, F, h, g⟩) := by unfold takeR; rw [if_neg (by rw [hg]; exact Bool.false_ne_true), hj, if_neg (by omega), if_neg (by rw [hlo]; exact Bool.false_ne_true)]; rfl
  have HC : Hid (anyC F n = false) := by
    show _ = _
    cases hc : anyC F n
    · rfl
    · obtain ⟨i, h1, h2, h3⟩ := (anyC_iff F n).1 hc
      exfalso
      unfold loose at hlo
      rcases first_spec (fun i => (F i).pins == 0) n with ⟨k1, k2⟩ | ⟨j, k1, k2, k3, k4⟩
      · have := k2 i h1
        simp [h3] at this
      · rw [k1] at hlo
        simp at hlo
  have p0 : RefAt (w.alloc (.cells #[.int .i64 0, .bool false, .bool false, .bool false, .int .i64 0] 67)) P B n K F h := p.up ((Below.refl _ _).alloc (Nat.le_refl _) _)
  have HF := Lib.hid (RFind_any p0 key)
  rw [find_same G] at HF
  have HX : Hid (RefAt (w.alloc (.cells #[.int .i64 0, .bool false, .bool false, .bool false, .int .i64 0] 67)) P B n K F h ∧ RRow (w.alloc (.cells #[.int .i64 0, .bool false, .bool false, .bool false, .int .i64 0] 67)) w.heap.size Fr.zero ∧ Off (RB P B) w (w.alloc (.cells #[.int .i64 0, .bool false, .bool false, .bool false, .int .i64 0] 67))) :=
    ⟨p0, heap_alloc_new w _, Off.of_below ((Below.refl _ _).alloc (Nat.le_refl _) _)⟩
  have hn := p.most
  have ltP := p.ltP
  have ltB := p.ltB
  have HA := Lib.hid hall
  clear p p0 G hj hall hlo
  go_enter Try.func27, Try.ntmps27
  go_wp2_with fail
  refine HF.out.mono ?_
  rintro e w1 ⟨rfl, rfl⟩
  unfold findV
  rw [hg]
  go_upto_region 4 with (fail)
  refine wp_forget (fun W => RefAt W P B n K F h ∧ RRow W w.heap.size Fr.zero ∧ Off (RB P B) w W) HX.out ?_
  clear HX HF hg
  rintro w2 ⟨p, r, o⟩
  have l0 := p.l0
  have HP := Lib.hid p
  have HRR := Lib.hid r
  have HO := Lib.hid o
  clear p r o
  go_wp2_with fail
  go_loop [10] (fun i => ∃ k : Nat, k ≤ n ∧ i = .int .i64 k) (fun i => n - (intOf i).toNat)
  case atStart => exact ⟨0, Nat.zero_le _, rfl⟩
  case round =>
    obtain ⟨k, hk, rfl⟩ := hrel
    by_cases hkn : k < n
    · obtain ⟨c0, c1, c2, c3, c4⟩ := HP.out.fr k (by omega)
      rw [HA.out k hkn] at c1
      go_wp2
      go_round
      case rel => exact ⟨k + 1, by omega, by go_num⟩
      case measure => simp [intOf]; omega
    · go_wp2_with fail
      refine (victim_none HP.out HC.out).mono ?_
      rintro e w3 ⟨rfl, p, o⟩
      have r := HRR.out.off o (by unfold RB; omega)
      have HO3 := Lib.hid (HO.out.trans o)
      obtain ⟨d0, d1, d2, d3, d4⟩ := r.cells
      have y0 := r.frozen 0
      have y1 := r.frozen 1
      have y2 := r.frozen 2
      have y3 := r.frozen 3
      have y4 := r.frozen 4
      have HP3 := Lib.hid p
      clear p r o HP HO HRR l0
      simp only [Fr.zero] at d0 d1 d2 d3 d4
      go_wp2
      refine bodyPost_ret (v := .tuple #[.int .i64 0, .agg #[.int .i64 0, .bool false, .bool false, .bool false, .int .i64 0], .bool false, .int .i64 10]) (by simp [results, Try.results27, go_sem, d0, d1, d2, d3, d4]) rfl ?_
      rw [HR.out]
      refine rtake_done HP3.out HO3.out (R := w.heap.size) (by omega) (by omega) (Nat.le_refl _) rfl ?_
      exact off_out _ _ _ _ _ _ _

set_option maxHeartbeats 4000000 in
theorem RTake_give {r : Nat} {F' : Nat → Fr} (p : RefAt w P B n K F h) (G : Good n F g) (hg : (g key).isSome = false) (hall : ∀ i, i < n → (F i).used = true) (hlo : loose F n = true)
    (hs : sw n (2 * n + 1) h F = ((r : Int), F')) (hrn : r < n) :
    Calls Try.prog 27 #[.pointer (some ⟨P, 0, none⟩), .int .i64 key] w (RTakePost P B n K (takeR n F h g key) w) := by
  have hj : freeAt F n = -1 := first_none fun i hi => by simp [hall i hi]
  have HR : Hid (takeR n F h g key = ⟨r, F' r, true, 0, putF F' r (Fr.new key), (r + 1) % n, upd (upd g (F' r).key none) key (some r)⟩) := by unfold takeR; rw [if_neg (by rw [hg]; exact Bool.false_ne_true), hj, if_neg (by omega), if_pos hlo, hs]; rfl
  have HC : Hid (anyC F n = true) := by
    show _ = _
    unfold loose at hlo
    rcases first_spec (fun i => (F i).pins == 0) n with ⟨k1, k2⟩ | ⟨j, k1, k2, k3, k4⟩
    · rw [k1] at hlo; cases hlo
    · exact (anyC_iff F n).2 ⟨j, k2, hall j k2, by simpa using k3⟩
  have HS := Lib.hid hs
  have p0 : RefAt (w.alloc (.cells #[.int .i64 0, .bool false, .bool false, .bool false, .int .i64 0] 67)) P B n K F h := p.up ((Below.refl _ _).alloc (Nat.le_refl _) _)
  have HF := Lib.hid (RFind_any p0 key)
  rw [find_same G] at HF
  have HX : Hid (RefAt (w.alloc (.cells #[.int .i64 0, .bool false, .bool false, .bool false, .int .i64 0] 67)) P B n K F h ∧ RRow (w.alloc (.cells #[.int .i64 0, .bool false, .bool false, .bool false, .int .i64 0] 67)) w.heap.size Fr.zero ∧ Off (RB P B) w (w.alloc (.cells #[.int .i64 0, .bool false, .bool false, .bool false, .int .i64 0] 67))) :=
    ⟨p0, heap_alloc_new w _, Off.of_below ((Below.refl _ _).alloc (Nat.le_refl _) _)⟩
  have hn := p.most
  have ltP := p.ltP
  have ltB := p.ltB
  have HA := Lib.hid hall
  clear p p0 G hj hall hlo hs
  go_enter Try.func27, Try.ntmps27
  go_wp2_with fail
  refine HF.out.mono ?_
  rintro e w1 ⟨rfl, rfl⟩
  unfold findV
  rw [hg]
  go_upto_region 4 with (fail)
  refine wp_forget (fun W => RefAt W P B n K F h ∧ RRow W w.heap.size Fr.zero ∧ Off (RB P B) w W) HX.out ?_
  clear HX HF hg
  rintro w2 ⟨p, rr, o⟩
  have l0 := p.l0
  have HP := Lib.hid p
  have HRR := Lib.hid rr
  have HO := Lib.hid o
  clear p rr o
  go_wp2_with fail
  go_loop [10] (fun i => ∃ k : Nat, k ≤ n ∧ i = .int .i64 k) (fun i => n - (intOf i).toNat)
  case atStart => exact ⟨0, Nat.zero_le _, rfl⟩
  case round =>
    obtain ⟨k, hk, rfl⟩ := hrel
    by_cases hkn : k < n
    · obtain ⟨c0, c1, c2, c3, c4⟩ := HP.out.fr k (by omega)
      rw [HA.out k hkn] at c1
      go_wp2
      go_round
      case rel => exact ⟨k + 1, by omega, by go_num⟩
      case measure => simp [intOf]; omega
    · go_wp2_with fail
      refine (victim_some HP.out HC.out HS.out).mono ?_
      rintro e w3 ⟨rfl, p, o⟩
      have rr := HRR.out.off o (by unfold RB; omega)
      have o3 := HO.out.trans o
      have HX : Hid (RefAt (w3.alloc (.cells #[.int .i64 (F' r).key, .bool (F' r).used, .bool (F' r).ref, .bool (F' r).dirty, .int .i64 (F' r).pins] 67)) P B n K F' ((r + 1) % n) ∧ RRow (w3.alloc (.cells #[.int .i64 (F' r).key, .bool (F' r).used, .bool (F' r).ref, .bool (F' r).dirty, .int .i64 (F' r).pins] 67)) w.heap.size Fr.zero ∧ RRow (w3.alloc (.cells #[.int .i64 (F' r).key, .bool (F' r).used, .bool (F' r).ref, .bool (F' r).dirty, .int .i64 (F' r).pins] 67)) w3.heap.size (F' r) ∧ Off (RB P B) w (w3.alloc (.cells #[.int .i64 (F' r).key, .bool (F' r).used, .bool (F' r).ref, .bool (F' r).dirty, .int .i64 (F' r).pins] 67))) :=
        ⟨p.up ((Below.refl _ _).alloc (Nat.le_refl _) _), rr.off (Off.of_below (S := fun _ => False) ((Below.refl _ _).alloc (Nat.le_refl _) _)) id, heap_alloc_new w3 _, o3.alloc _⟩
      have hs3 : w.heap.size < w3.heap.size := rr.lt
      obtain ⟨c0, c1, c2, c3, c4⟩ := p.fr r hrn
      have l0 := p.l0
      have ltP3 := p.ltP
      have ltB3 := p.ltB
      clear p rr o o3 HP HO HRR
      go_upto_region 14 with (fail)
      refine wp_forget (fun W => RefAt W P B n K F' ((r + 1) % n) ∧ RRow W w.heap.size Fr.zero ∧ RRow W w3.heap.size (F' r) ∧ Off (RB P B) w W) HX.out ?_
      clear HX c0 c1 c2 c3 c4 l0
      rintro w4 ⟨p, rr, r2, o⟩
      generalize hs4 : w3.heap.size = X at *
      clear hs4
      have l0 := p.l0
      obtain ⟨c0, c1, c2, c3, c4⟩ := p.fr r hrn
      have z0 := p.fz (r * 5)
      have z1 := p.fz (r * 5 + 1)
      have z2 := p.fz (r * 5 + 2)
      have z3 := p.fz (r * 5 + 3)
      have z4 := p.fz (r * 5 + 4)
      have HX : Hid (∀ W, W = (((((w4.setCell ⟨B, r * 5, none⟩ (.int .i64 key)).setCell ⟨B, r * 5 + 1, none⟩ (.bool true)).setCell ⟨B, r * 5 + 2, none⟩ (.bool true)).setCell ⟨B, r * 5 + 3, none⟩ (.bool false)).setCell ⟨B, r * 5 + 4, none⟩ (.int .i64 0)) → RefAt W P B n K (putF F' r (Fr.new key)) ((r + 1) % n) ∧ RRow W w.heap.size Fr.zero ∧ RRow W X (F' r) ∧ Off (RB P B) w W) := by
        rintro W rfl
        have hB : ∀ o, RB P B (⟨B, o, none⟩ : Addr).block := fun o => .inr rfl
        have hR : w.heap.size ≠ B := by omega
        have hR2 : X ≠ B := by omega
        refine ⟨p.put (f := Fr.new key) hrn, ?_, ?_, ((((o.setCell (hB _) _).setCell (hB _) _).setCell (hB _) _).setCell (hB _) _).setCell (hB _) _⟩
        · unfold RRow
          rw [Below.heap_setCell _ _ _ _ hR, Below.heap_setCell _ _ _ _ hR, Below.heap_setCell _ _ _ _ hR, Below.heap_setCell _ _ _ _ hR, Below.heap_setCell _ _ _ _ hR]
          exact rr
        · unfold RRow
          rw [Below.heap_setCell _ _ _ _ hR2, Below.heap_setCell _ _ _ _ hR2, Below.heap_setCell _ _ _ _ hR2, Below.heap_setCell _ _ _ _ hR2, Below.heap_setCell _ _ _ _ hR2]
          exact r2
      clear p rr r2 o
      go_upto_region 15 with (fail)
      refine wp_forget (fun W => RefAt W P B n K (putF F' r (Fr.new key)) ((r + 1) % n) ∧ RRow W w.heap.size Fr.zero ∧ RRow W X (F' r) ∧ Off (RB P B) w W) (HX.out _ rfl) ?_
      clear HX c0 c1 c2 c3 c4 z0 z1 z2 z3 z4 l0
      rintro w5 ⟨p, rr, r2, o⟩
      obtain ⟨d0, d1, d2, d3, d4⟩ := rr.cells
      have y0 := rr.frozen 0
      have y1 := rr.frozen 1
      have y2 := rr.frozen 2
      have y3 := rr.frozen 3
      have y4 := rr.frozen 4
      obtain ⟨x0, x1, x2, x3, x4⟩ := r2.cells
      have HP := Lib.hid p
      have HO := Lib.hid o
      clear p rr r2 o
      simp only [Fr.zero] at d0 d1 d2 d3 d4
      go_region
      go_wp2
      refine bodyPost_ret (v := .tuple #[.int .i64 r, .agg #[.int .i64 (F' r).key, .bool (F' r).used, .bool (F' r).ref, .bool (F' r).dirty, .int .i64 (F' r).pins], .bool true, .int .i64 0]) (by simp [results, Try.results27, go_sem, d0, d1, d2, d3, d4]) rfl ?_
      rw [HR.out]
      refine rtake_done HP.out HO.out (R := w.heap.size) (by omega) (by omega) (Nat.le_refl _) rfl ?_
      exact (off_out _ _ _ _ _ _ _).drew

theorem RTake_any (p : RefAt w P B n K F h) (G : Good n F g) :
    Calls Try.prog 27 #[.pointer (some ⟨P, 0, none⟩), .int .i64 key] w (RTakePost P B n K (takeR n F h g key) w) := by
  cases hg : (g key).isSome
  · rcases first_spec (fun i => !(F i).used) n with ⟨h1, h2⟩ | ⟨j, h1, h2, h3, h4⟩
    · have hu : ∀ i, i < n → (F i).used = true := fun i hi => by simpa using h2 i hi
      cases hl : loose F n
      · exact RTake_full p G hg hu hl
      · have hc : ∃ i, i < n ∧ (F i).cand = true := by
          unfold loose at hl
          rcases first_spec (fun i => (F i).pins == 0) n with ⟨k1, k2⟩ | ⟨j, k1, k2, k3, k4⟩
          · rw [k1] at hl; cases hl
          · refine ⟨j, k2, ?_⟩
            simp at k3
            simp [Fr.cand, hu j k2, k3]
        obtain ⟨i, hi, hci⟩ := hc
        obtain ⟨r, k1, k2, k3, k4⟩ := sw_some p.hand hi hci
        exact RTake_give p G hg hu hl (r := r) (F' := (sw n (2 * n + 1) h F).2) (by rw [← k1]) k2
    · exact RTake_free p G hg h1 h2 (by simpa using h3) (fun i hi => by simpa using h4 i hi)
  · exact RTake_used p G hg
end
end Go.Proofs.Ytalnlkcmkchjdaa
