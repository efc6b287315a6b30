/- What becomes of a pool when memory is written. -/
import Derived.Test.YtmipngefpedfpaaFP
namespace Go.Proofs.Ytmipngefpedfpaa
open Go.RowKit Go.Maps
set_option linter.unusedVariables false
set_option linter.unusedSimpArgs false

/-- The blocks of a pool. -/
def PB (P B M : Nat) : Nat → Prop := fun k => k = P ∨ k = B ∨ k = M
def putF (F : Nat → Fr) (k : Nat) (f : Fr) : Nat → Fr := fun i => if i = k then f else F i

section
variable {w w' : World} {P B M n : Nat} {F F' : Nat → Fr} {h : Nat} {g : Int → Option Nat} {c : Nat}

theorem PoolAt.ltP (p : PoolAt w P B M n F h g c) : P < w.heap.size := lt_of_cell p.l0
theorem PoolAt.ltB (p : PoolAt w P B M n F h g c) : B < w.heap.size := lt_of_cell (p.fr 0 p.pos).c0
theorem PoolAt.ltM (p : PoolAt w P B M n F h g c) : M < w.heap.size := p.mp.lt
theorem PoolAt.neM (p : PoolAt w P B M n F h g c) : P ≠ M ∧ B ≠ M := by
  refine ⟨fun e => ?_, fun e => ?_⟩
  · have h1 := p.l0
    rw [e, p.mp.no_cell] at h1
    cases h1
  · have h1 := (p.fr 0 p.pos).c0
    rw [e, p.mp.no_cell] at h1
    cases h1

/-- Other blocks have changed alone. -/
theorem PoolAt.off {S : Nat → Prop} (p : PoolAt w P B M n F h g c) (ho : Off S w w') (h1 : ¬ S P) (h2 : ¬ S B) (h3 : ¬ S M) : PoolAt w' P B M n F h g c where
  l0 := (ho.cell p.ltP h1).trans p.l0
  l1 := (ho.cell p.ltP h1).trans p.l1
  l2 := (ho.cell p.ltP h1).trans p.l2
  lz := fun i => (ho.frozen p.ltP h1).trans (p.lz i)
  fr := fun i hi => ⟨(ho.cell p.ltB h2).trans (p.fr i hi).c0, (ho.cell p.ltB h2).trans (p.fr i hi).c1, (ho.cell p.ltB h2).trans (p.fr i hi).c2, (ho.cell p.ltB h2).trans (p.fr i hi).c3, (ho.cell p.ltB h2).trans (p.fr i hi).c4⟩
  fz := fun j => (ho.frozen p.ltB h2).trans (p.fz j)
  mp := p.mp.off ho h3
  ne := p.ne
  pos := p.pos
  most := p.most
  hand := p.hand
  kw := p.kw
theorem PoolAt.up (p : PoolAt w P B M n F h g c) (hb : Below w.heap.size w w') : PoolAt w' P B M n F h g c := p.off (S := fun _ => False) (Off.of_below hb) id id id
theorem PoolAt.drewN (p : PoolAt w P B M n F h g c) (k : Nat) : PoolAt (w.drewN k) P B M n F h g c := p.up (below_drewN (Below.refl _ _) k)
theorem PoolAt.drew (p : PoolAt w P B M n F h g c) : PoolAt w.drew P B M n F h g c := p.up (Below.refl _ _).drew
/-- The frames have changed alone. -/
theorem PoolAt.frames (p : PoolAt w P B M n F h g c) (hf : FrS w' B n F') (hz : ∀ j, w'.frozen? ⟨B, j, none⟩ = false) (ho : Off (· = B) w w') (hk : ∀ i, i < n → (Lit.int .i64 (F' i).key).wf = true) : PoolAt w' P B M n F' h g c where
  l0 := (ho.cell p.ltP p.ne).trans p.l0
  l1 := (ho.cell p.ltP p.ne).trans p.l1
  l2 := (ho.cell p.ltP p.ne).trans p.l2
  lz := fun i => (ho.frozen p.ltP p.ne).trans (p.lz i)
  fr := hf
  fz := hz
  mp := p.mp.off ho (fun e => p.neM.2 e.symm)
  ne := p.ne
  pos := p.pos
  most := p.most
  hand := p.hand
  kw := hk
/-- The map has changed alone. -/
theorem PoolAt.mapped {g' : Int → Option Nat} {c' : Nat} (p : PoolAt w P B M n F h g c) (hm : MapIs Try.prog 101 w' M (keyF g') c') (ho : Off (· = M) w w') : PoolAt w' P B M n F h g' c' where
  l0 := (ho.cell p.ltP p.neM.1).trans p.l0
  l1 := (ho.cell p.ltP p.neM.1).trans p.l1
  l2 := (ho.cell p.ltP p.neM.1).trans p.l2
  lz := fun i => (ho.frozen p.ltP p.neM.1).trans (p.lz i)
  fr := fun i hi => ⟨(ho.cell p.ltB p.neM.2).trans (p.fr i hi).c0, (ho.cell p.ltB p.neM.2).trans (p.fr i hi).c1, (ho.cell p.ltB p.neM.2).trans (p.fr i hi).c2, (ho.cell p.ltB p.neM.2).trans (p.fr i hi).c3, (ho.cell p.ltB p.neM.2).trans (p.fr i hi).c4⟩
  fz := fun j => (ho.frozen p.ltB p.neM.2).trans (p.fz j)
  mp := hm
  ne := p.ne
  pos := p.pos
  most := p.most
  hand := p.hand
  kw := p.kw
/-- The hand has moved. -/
theorem PoolAt.moved {h' : Nat} (p : PoolAt w P B M n F h g c) (hh : h' < n) : PoolAt (w.setCell ⟨P, 2, none⟩ (.int .i64 h')) P B M n F h' g c where
  l0 := (World.cell?_setCell_other _ _ _ _ (by simp)).trans p.l0
  l1 := (World.cell?_setCell_other _ _ _ _ (by simp)).trans p.l1
  l2 := World.cell?_setCell_same _ _ _ p.l2
  lz := fun i => by rw [World.frozen?_setCell]; exact p.lz i
  fr := fun i hi => by
    have hne : ∀ o, (⟨P, 2, none⟩ : Addr) ≠ ⟨B, o, none⟩ := fun o e => p.ne (by injection e)
    exact ⟨(World.cell?_setCell_other _ _ _ _ (hne _)).trans (p.fr i hi).c0, (World.cell?_setCell_other _ _ _ _ (hne _)).trans (p.fr i hi).c1, (World.cell?_setCell_other _ _ _ _ (hne _)).trans (p.fr i hi).c2, (World.cell?_setCell_other _ _ _ _ (hne _)).trans (p.fr i hi).c3, (World.cell?_setCell_other _ _ _ _ (hne _)).trans (p.fr i hi).c4⟩
  fz := fun j => by rw [World.frozen?_setCell]; exact p.fz j
  mp := p.mp.off (S := (· = P)) ((Off.refl (· = P) w).setCell (p := ⟨P, 2, none⟩) rfl _) (fun e => p.neM.1 e.symm)
  ne := p.ne
  pos := p.pos
  most := p.most
  hand := hh
  kw := p.kw
end

/-- A frame is written whole, cell by cell. -/
theorem FrS.put {w : World} {B n k : Nat} {F : Nat → Fr} {f : Fr} (h : FrS w B n F) (hk : k < n) :
    FrS (((((w.setCell ⟨B, k * 5, none⟩ (.int .i64 f.key)).setCell ⟨B, k * 5 + 1, none⟩ (.bool f.used)).setCell ⟨B, k * 5 + 2, none⟩ (.bool f.ref)).setCell ⟨B, k * 5 + 3, none⟩ (.bool f.dirty)).setCell ⟨B, k * 5 + 4, none⟩ (.int .i64 f.pins)) B n (putF F k f) := by
  intro i hi
  have hi5 := h i hi
  have hne : ∀ (r s : Nat), k * 5 + r ≠ s → (⟨B, k * 5 + r, none⟩ : Addr) ≠ ⟨B, s, none⟩ := by
    intro r s h1 he
    injection he with _ he
    exact h1 he
  have o : ∀ (W : World) (r s : Nat) (v : Value), k * 5 + r ≠ s → (W.setCell ⟨B, k * 5 + r, none⟩ v).cell? ⟨B, s, none⟩ = W.cell? ⟨B, s, none⟩ := fun W r s v h1 => World.cell?_setCell_other _ _ _ _ (hne r s h1)
  have o0 : ∀ (W : World) (s : Nat) (v : Value), k * 5 ≠ s → (W.setCell ⟨B, k * 5, none⟩ v).cell? ⟨B, s, none⟩ = W.cell? ⟨B, s, none⟩ := fun W s v h1 => o W 0 s v h1
  unfold putF
  by_cases hik : i = k
  · subst hik
    rw [if_pos rfl]
    refine ⟨?_, ?_, ?_, ?_, ?_⟩
    · rw [o _ 4 _ _ (by omega), o _ 3 _ _ (by omega), o _ 2 _ _ (by omega), o _ 1 _ _ (by omega)]
      exact World.cell?_setCell_same _ _ _ hi5.c0
    · rw [o _ 4 _ _ (by omega), o _ 3 _ _ (by omega), o _ 2 _ _ (by omega)]
      exact World.cell?_setCell_same _ _ _ ((o0 _ _ _ (by omega)).trans hi5.c1)
    · rw [o _ 4 _ _ (by omega), o _ 3 _ _ (by omega)]
      exact World.cell?_setCell_same _ _ _ ((o _ 1 _ _ (by omega)).trans ((o0 _ _ _ (by omega)).trans hi5.c2))
    · rw [o _ 4 _ _ (by omega)]
      exact World.cell?_setCell_same _ _ _ ((o _ 2 _ _ (by omega)).trans ((o _ 1 _ _ (by omega)).trans ((o0 _ _ _ (by omega)).trans hi5.c3)))
    · exact World.cell?_setCell_same _ _ _ ((o _ 3 _ _ (by omega)).trans ((o _ 2 _ _ (by omega)).trans ((o _ 1 _ _ (by omega)).trans ((o0 _ _ _ (by omega)).trans hi5.c4))))
  · rw [if_neg hik]
    have all : ∀ s, i * 5 ≤ s → s < i * 5 + 5 → (((((w.setCell ⟨B, k * 5, none⟩ (.int .i64 f.key)).setCell ⟨B, k * 5 + 1, none⟩ (.bool f.used)).setCell ⟨B, k * 5 + 2, none⟩ (.bool f.ref)).setCell ⟨B, k * 5 + 3, none⟩ (.bool f.dirty)).setCell ⟨B, k * 5 + 4, none⟩ (.int .i64 f.pins)).cell? ⟨B, s, none⟩ = w.cell? ⟨B, s, none⟩ := by
      intro s h1 h2
      rw [o _ 4 _ _ (by omega), o _ 3 _ _ (by omega), o _ 2 _ _ (by omega), o _ 1 _ _ (by omega), o0 _ _ _ (by omega)]
    exact ⟨(all _ (by omega) (by omega)).trans hi5.c0, (all _ (by omega) (by omega)).trans hi5.c1, (all _ (by omega) (by omega)).trans hi5.c2, (all _ (by omega) (by omega)).trans hi5.c3, (all _ (by omega) (by omega)).trans hi5.c4⟩

theorem PoolAt.put {w : World} {P B M n : Nat} {F : Nat → Fr} {h : Nat} {g : Int → Option Nat} {c k : Nat} {f : Fr} (p : PoolAt w P B M n F h g c) (hk : k < n) (hw : (Lit.int .i64 f.key).wf = true) :
    PoolAt (((((w.setCell ⟨B, k * 5, none⟩ (.int .i64 f.key)).setCell ⟨B, k * 5 + 1, none⟩ (.bool f.used)).setCell ⟨B, k * 5 + 2, none⟩ (.bool f.ref)).setCell ⟨B, k * 5 + 3, none⟩ (.bool f.dirty)).setCell ⟨B, k * 5 + 4, none⟩ (.int .i64 f.pins)) P B M n (putF F k f) h g c := by
  refine p.frames (FrS.put p.fr hk) (fun j => by simp only [World.frozen?_setCell]; exact p.fz j) ?_ (fun i hi => ?_)
  · exact (((((Off.refl (· = B) w).setCell (p := ⟨B, k * 5, none⟩) rfl _).setCell (p := ⟨B, k * 5 + 1, none⟩) rfl _).setCell (p := ⟨B, k * 5 + 2, none⟩) rfl _).setCell (p := ⟨B, k * 5 + 3, none⟩) rfl _).setCell (p := ⟨B, k * 5 + 4, none⟩) rfl _
  · unfold putF
    split
    · exact hw
    · exact p.kw i hi
end Go.Proofs.Ytmipngefpedfpaa
