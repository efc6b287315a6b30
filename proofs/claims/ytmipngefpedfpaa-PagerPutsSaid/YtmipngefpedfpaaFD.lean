/- The walk of Pool.Take. -/
import Derived.Test.YtmipngefpedfpaaFC
namespace Go.Proofs.Ytmipngefpedfpaa
open Go.RowKit Go.Maps
set_option linter.unusedVariables false
set_option linter.unusedSimpArgs false

/-- A frame that a key uses newly. -/
def Fr.new (key : Int) : Fr := ⟨key, true, true, false, 0⟩
structure TakeR where
  frame : Int
  out : Fr
  given : Bool
  e : Int
  F : Nat → Fr
  h : Nat
  g : Int → Option Nat
def TakeR.val (r : TakeR) : Value := .tuple #[.int .i64 r.frame, r.out.val, .bool r.given, .int .i64 r.e]
def freeAt (F : Nat → Fr) (n : Nat) : Int := first (fun i => !(F i).used) n
def loose (F : Nat → Fr) (n : Nat) : Bool := decide (0 ≤ first (fun i => (F i).pins == 0) n)
/-- What Take answers, and how it leaves the pool. -/
def takeR (n : Nat) (F : Nat → Fr) (h : Nat) (g : Int → Option Nat) (key : Int) : TakeR :=
  if (g key).isSome then ⟨0, Fr.zero, false, 3, F, h, g⟩
  else if 0 ≤ freeAt F n then ⟨freeAt F n, Fr.zero, false, 0, putF F (freeAt F n).toNat (Fr.new key), h, upd g key (some (freeAt F n).toNat)⟩
  else if loose F n then
    let r := (sw n (2 * n + 1) h F).1.toNat
    let F' := (sw n (2 * n + 1) h F).2
    ⟨r, F' r, true, 0, putF F' r (Fr.new key), (r + 1) % n, upd (upd g (F' r).key none) key (some r)⟩
  else ⟨0, Fr.zero, false, 10, F, h, g⟩

def TakePost (P B M n : Nat) (r : TakeR) (w : World) (e : Ending) (w' : World) : Prop :=
  e = .returned r.val ∧ (∃ c', PoolAt w' P B M n r.F r.h r.g c') ∧ Off (PB P B M) w w'

/-- The cell of a result that is a frame. -/
def ROut (w : World) (R : Nat) (f : Fr) : Prop := w.heap[R]? = some (.cells #[.int .i64 f.key, .bool f.used, .bool f.ref, .bool f.dirty, .int .i64 f.pins] 97 (0, 0))
theorem ROut.frozen {w : World} {R : Nat} {f : Fr} (h : ROut w R f) (i : Nat) : w.frozen? ⟨R, i, none⟩ = false := by
  unfold ROut at h
  simp [World.frozen?, h]
theorem ROut.lt {w : World} {R : Nat} {f : Fr} (h : ROut w R f) : R < w.heap.size := (Array.getElem?_eq_some_iff.1 h).1
theorem ROut.cells {w : World} {R : Nat} {f : Fr} (h : ROut w R f) : w.cell? ⟨R, 0, none⟩ = some (.int .i64 f.key) ∧ w.cell? ⟨R, 1, none⟩ = some (.bool f.used) ∧ w.cell? ⟨R, 2, none⟩ = some (.bool f.ref) ∧ w.cell? ⟨R, 3, none⟩ = some (.bool f.dirty) ∧ w.cell? ⟨R, 4, none⟩ = some (.int .i64 f.pins) := by
  simp only [cell_of_row _ _ _ _ _ _ h]
  exact ⟨rfl, rfl, rfl, rfl, rfl⟩

theorem off_out (w : World) (R : Nat) (v0 v1 v2 v3 v4 : Value) : Off (· = R) w (((((w.setCell ⟨R, 0, none⟩ v0).setCell ⟨R, 1, none⟩ v1).setCell ⟨R, 2, none⟩ v2).setCell ⟨R, 3, none⟩ v3).setCell ⟨R, 4, none⟩ v4) :=
  (((((Off.refl (· = R) w).setCell (p := ⟨R, 0, none⟩) rfl v0).setCell (p := ⟨R, 1, none⟩) rfl v1).setCell (p := ⟨R, 2, none⟩) rfl v2).setCell (p := ⟨R, 3, none⟩) rfl v3).setCell (p := ⟨R, 4, none⟩) rfl v4
theorem take_done {w w3 W : World} {P B M n c R : Nat} {r : TakeR} {e : Ending} (p : PoolAt w3 P B M n r.F r.h r.g c) (o : Off (PB P B M) w w3) (h1 : R ≠ P) (h2 : R ≠ B) (h3 : R ≠ M) (hR : w.heap.size ≤ R) (he : e = .returned r.val) (ho : Off (· = R) w3 W) : TakePost P B M n r w e W :=
  ⟨he, ⟨c, p.off ho (fun e => h1 e.symm) (fun e => h2 e.symm) (fun e => h3 e.symm)⟩, o.late ho (fun i hi e => by omega)⟩

section
variable {w : World} {P B M n : Nat} {F : Nat → Fr} {h : Nat} {g : Int → Option Nat} {c : Nat} {key : Int}

set_option maxHeartbeats 1000000 in
theorem Take_used (p : PoolAt w P B M n F h g c) (hk : (Lit.int .i64 key).wf = true) (hg : (g key).isSome = true) :
    Calls Try.prog 45 #[.pointer (some ⟨P, 0, none⟩), .int .i64 key] w (TakePost P B M n (takeR n F h g key) w) := by
  have HP := Lib.hid p
  have HR : Hid (takeR n F h g key = ⟨0, Fr.zero, false, 3, F, h, g⟩) := by unfold takeR; rw [if_pos hg]; rfl
  have p0 : PoolAt (w.alloc (.cells #[.int .i64 0, .bool false, .bool false, .bool false, .int .i64 0] 97)) P B M n F h g c := p.up ((Below.refl _ _).alloc (Nat.le_refl _) _)
  have HF := Lib.hid (Find_any p0 hk)
  clear p p0
  go_enter Try.func45, Try.ntmps45
  go_wp2_with fail
  refine HF.out.mono ?_
  rintro e w1 ⟨rfl, rfl⟩
  unfold findV
  rw [hg]
  go_wp2
  refine bodyPost_ret (v := .tuple #[.int .i64 0, .agg #[.int .i64 0, .bool false, .bool false, .bool false, .int .i64 0], .bool false, .int .i64 3]) (by simp [results, Try.results45, go_sem]) rfl ?_
  rw [HR.out]
  refine ⟨rfl, ⟨c, ?_⟩, ?_⟩
  · exact HP.out.up (by go_grown)
  · exact Off.of_below (by go_grown)

set_option maxHeartbeats 1000000 in
theorem Take_free {j : Nat} (p : PoolAt w P B M n F h g c) (hk : (Lit.int .i64 key).wf = true) (hg : (g key).isSome = false) (hj : freeAt F n = j) (hjn : j < n) :
    Calls Try.prog 45 #[.pointer (some ⟨P, 0, none⟩), .int .i64 key] w (TakePost P B M n (takeR n F h g key) w) := by
  have HP := Lib.hid p
  have HR : Hid (takeR n F h g key = ⟨j, Fr.zero, false, 0, putF F j (Fr.new key), h, upd g key (some j)⟩) := by unfold takeR; rw [if_neg (by rw [hg]; exact Bool.false_ne_true), hj, if_pos (by omega)]; rfl
  have p0 : PoolAt (w.alloc (.cells #[.int .i64 0, .bool false, .bool false, .bool false, .int .i64 0] 97)) P B M n F h g c := p.up ((Below.refl _ _).alloc (Nat.le_refl _) _)
  have HF := Lib.hid (Find_any p0 hk)
  have HI := Lib.hid (IndexFunc_any 51 (fun f => !f.used) cf1 (fun f w => notUsed_any f w) _ B n F p.most p0.fr)
  have HJ := Lib.hid hj
  have hn := p.most
  have l0 := p0.l0
  have ltw := p.ltP
  have ltb := p.ltB
  have HP0 := Lib.hid p0
  clear p p0 hj
  go_enter Try.func45, Try.ntmps45
  go_wp2_with fail
  refine HF.out.mono ?_
  rintro e w1 ⟨rfl, rfl⟩
  unfold findV
  rw [hg]
  go_wp2_with fail
  refine HI.out.mono ?_
  rintro e w1 ⟨rfl, hb1⟩
  rw [show first (fun i => !(F i).used) n = (j : Int) from HJ.out]
  have p1 := HP0.out.up hb1
  have r1 : ROut w1 w.heap.size Fr.zero := (hb1.block _ (by simp)).trans (heap_alloc_new w _)
  have o1 : Off (PB P B M) w w1 := (Off.of_below ((Below.refl _ _).alloc (Nat.le_refl _) _)).step hb1
  obtain ⟨c0, c1, c2, c3, c4⟩ := p1.fr j hjn
  have z0 := p1.fz (j * 5)
  have z1 := p1.fz (j * 5 + 1)
  have z2 := p1.fz (j * 5 + 2)
  have z3 := p1.fz (j * 5 + 3)
  have z4 := p1.fz (j * 5 + 4)
  have l0' := p1.l0
  have HX : Hid (∀ W, W = (((((w1.setCell ⟨B, j * 5, none⟩ (.int .i64 key)).setCell ⟨B, j * 5 + 1, none⟩ (.bool true)).setCell ⟨B, j * 5 + 2, none⟩ (.bool true)).setCell ⟨B, j * 5 + 3, none⟩ (.bool false)).setCell ⟨B, j * 5 + 4, none⟩ (.int .i64 0)) → PoolAt W P B M n (putF F j (Fr.new key)) h g c ∧ ROut W w.heap.size Fr.zero ∧ Off (PB P B M) w W) := by
    rintro W rfl
    have hB : ∀ o, PB P B M (⟨B, o, none⟩ : Addr).block := fun o => .inr (.inl rfl)
    have hR : w.heap.size ≠ B := by omega
    refine ⟨p1.put (f := Fr.new key) hjn hk, ?_, ((((o1.setCell (hB _) _).setCell (hB _) _).setCell (hB _) _).setCell (hB _) _).setCell (hB _) _⟩
    unfold ROut
    rw [Below.heap_setCell _ _ _ _ hR, Below.heap_setCell _ _ _ _ hR, Below.heap_setCell _ _ _ _ hR, Below.heap_setCell _ _ _ _ hR, Below.heap_setCell _ _ _ _ hR]
    exact r1
  clear p1 r1 o1 hb1 l0
  go_upto_region 13 with (fail)
  refine wp_forget (fun W => PoolAt W P B M n (putF F j (Fr.new key)) h g c ∧ ROut W w.heap.size Fr.zero ∧ Off (PB P B M) w W) (HX.out _ rfl) ?_
  clear HX c0 c1 c2 c3 c4 z0 z1 z2 z3 z4 l0' w1
  rintro w2 ⟨p2, r2, o2⟩
  obtain ⟨l, hl⟩ := name_key hk
  obtain ⟨w3, hrun, hm, ho⟩ := p2.mp.put (val := .int .i64 j) nameKeyed Try.underlying93 hl
  rw [keyF_put] at hm
  have l1 := p2.l1
  have HQ : Hid (PoolAt w3 P B M n (putF F j (Fr.new key)) h (upd g key (some j)) _ ∧ ROut w3 w.heap.size Fr.zero ∧ Off (PB P B M) w w3) :=
    ⟨p2.mapped hm ho, (ho.block _ (by have := o2.size; have := (Array.getElem?_eq_some_iff.1 r2).1; omega) (by have := HP0.out.ltM; intro e; have := HP.out.ltM; omega)).trans r2, o2.trans (ho.mono fun k e => .inr (.inr e))⟩
  clear p2 r2 o2 hm ho hl
  go_wp2
  obtain ⟨p3, r3, o3⟩ := HQ.out
  obtain ⟨d0, d1, d2, d3, d4⟩ := r3.cells
  have y0 := r3.frozen 0
  have y1 := r3.frozen 1
  have y2 := r3.frozen 2
  have y3 := r3.frozen 3
  have y4 := r3.frozen 4
  have HP3 := Lib.hid p3
  have HO3 := Lib.hid o3
  clear p3 r3 o3 HQ
  simp only [Fr.zero] at d0 d1 d2 d3 d4
  go_region
  go_wp2
  refine bodyPost_ret (v := .tuple #[.int .i64 j, .agg #[.int .i64 0, .bool false, .bool false, .bool false, .int .i64 0], .bool false, .int .i64 0]) (by simp [results, Try.results45, go_sem, d0, d1, d2, d3, d4]) rfl ?_
  rw [HR.out]
  refine take_done HP3.out HO3.out (R := w.heap.size) (by omega) (by omega) (by have := HP.out.ltM; omega) (Nat.le_refl _) rfl ?_
  exact (off_out _ _ _ _ _ _ _).drew
end
end Go.Proofs.Ytmipngefpedfpaa
