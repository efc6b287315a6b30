/- The contracts of clean.Victim and of the law's own known; the walk of CleanOrder. -/
import Derived.Test.YteckbhpjhohanaaB
namespace Go.Proofs.Yteckbhpjhohanaa
open Go.RowKit
set_option linter.unusedVariables false

def Ld.val (l : Ld) : Value := .agg #[.int .i64 l.s, .int .i64 l.u, .int .i64 l.z, .bool l.f]

theorem madeCells_bool (n : Nat) : madeCells #[Value.bool false] n = Array.replicate n (.bool false) := by
  unfold madeCells
  apply Array.ext
  · simp
  · intro i h1 h2
    simp [Nat.mod_one]

theorem bool_info : (Try.prog.info? 4).map (fun i => (i.zero, i.size, i.bytes)) = some (some (.bool false), 1, 1) := by kernel_rfl

theorem run_make_bools (n : Nat) (hn : n ≤ 281474976710656) (w : World) :
    (Instr.makeSlice 26 (.int .i64 (n : Int)) (.int .i64 (n : Int))).run Try.prog w = .ok (.slice (some ⟨w.heap.size, 0, none⟩) n n) (w.alloc (.cells (Array.replicate n (.bool false)) 4)) := by
  obtain ⟨i0, hi, hz0, hz1, hz2⟩ := info_parts bool_info
  have h := run_make (P := Try.prog) w 26 4 i0 (.bool false) Try.underlying26 hi hz0 .i64 .i64 n n (by omega) (by omega) (by rw [hz2]; omega) (by omega)
  rw [h]
  simp [hz1, Value.cells, madeCells_bool]

theorem SB_made (w : World) (n g : Nat) (t : TypeId) (hg : g = w.heap.size) : SB (w.alloc (.cells (Array.replicate n (.bool false)) t)) (some ⟨g, 0, none⟩) n (fun _ => false) := by
  subst hg
  intro h
  refine ⟨w.heap.size, 0, rfl, by simp, fun k hk => ?_⟩
  rw [cell_of_row _ _ _ _ _ _ (heap_alloc_new w _)]
  simp [hk]

theorem SL.up {w w' : World} {A : Option Addr} {n : Nat} {L : Nat → Ld} (h : SL w A n L) (hb : Below w.heap.size w w') : SL w' A n L := by
  intro hn
  obtain ⟨b, o, rfl, hl, hc⟩ := h hn
  refine ⟨b, o, rfl, Nat.lt_of_lt_of_le hl hb.size, fun k hk => ?_⟩
  obtain ⟨h0, h1, h2, h3⟩ := hc k hk
  exact ⟨(hb.cell hl).trans h0, (hb.cell hl).trans h1, (hb.cell hl).trans h2, (hb.cell hl).trans h3⟩

def victimV (L : Nat → Ld) (n : Nat) : Value :=
  if bestTo L (fun _ => false) n < 0 then .tuple #[.agg #[.int .i64 0, .int .i64 0, .int .i64 0, .bool false], .bool false]
  else .tuple #[(L (bestTo L (fun _ => false) n).toNat).val, .bool true]

set_option maxHeartbeats 1000000 in
theorem Victim_any (n c : Nat) (A : Option Addr) (L : Nat → Ld) (w : World) (hn : n ≤ 281474976710656) (hA : SL w A n L) :
    Calls Try.prog 7 #[.slice A n c] w fun e w' => e = .returned (victimV L n) ∧ Below w.heap.size w w' := by
  have HM := Lib.hid (run_make_bools n hn)
  have HA := Lib.hid hA
  have hbd := bestTo_bd L (fun _ => false) n
  generalize hv : bestTo L (fun _ => false) n = v at hbd
  obtain ⟨hv0, hv1⟩ := hbd
  have HV := Lib.hid hv
  clear hA hv
  by_cases hneg : v < 0
  · have hmk := HM.out
    go_enter Try.func7, Try.ntmps7
    go_wp2_with fail
    refine (victim_any n c n _ _ L (fun _ => false) _ (by unfold maxLen; omega) (HA.out.up (((Below.refl _ _).alloc (Nat.le_refl _) _).alloc (by simp) _)) ?_).mono ?_
    · exact SB_made _ _ _ _ (by simp)
    rintro e w1 ⟨rfl, hb1⟩
    rw [HV.out]
    have Hb1 := Lib.hid hb1
    obtain ⟨hc1, hf1⟩ := bcell hb1
    simp only [World.size_alloc] at hc1 hf1
    have k0 := hc1 w.heap.size 0 (by omega)
    have k1 := hc1 w.heap.size 1 (by omega)
    have k2 := hc1 w.heap.size 2 (by omega)
    have k3 := hc1 w.heap.size 3 (by omega)
    simp [go_sem] at k0 k1 k2 k3
    clear hb1
    go_wp2
    refine bodyPost_ret (v := .tuple #[.agg #[.int .i64 0, .int .i64 0, .int .i64 0, .bool false], .bool false]) (by simp [results, Try.results7, go_sem, k0, k1, k2, k3]) rfl ⟨by unfold victimV; rw [HV.out, if_pos hneg], ?_⟩
    have h2 := below_upto ((Below.refl w.heap.size w).alloc (Nat.le_refl _) _) (below_upto ((Below.refl _ _).alloc (Nat.le_refl _) _) Hb1.out (Nat.le_refl _)) (Nat.le_refl _)
    exact (((h2.setCell (Nat.le_refl _) _).setCell (Nat.le_refl _) _).setCell (Nat.le_refl _) _).setCell (Nat.le_refl _) _
  · obtain ⟨j, rfl⟩ := Int.eq_ofNat_of_zero_le (Int.not_lt.1 hneg)
    have hmk := HM.out
    obtain ⟨b, o, rfl, hbl, hcl⟩ := HA.out (by omega)
    have hcj := hcl j (by omega)
    obtain ⟨c0, c1, c2, c3⟩ := hcj
    clear hcl
    go_enter Try.func7, Try.ntmps7
    go_wp2_with fail
    refine (victim_any n c n _ _ L (fun _ => false) _ (by unfold maxLen; omega) (HA.out.up (((Below.refl _ _).alloc (Nat.le_refl _) _).alloc (by simp) _)) ?_).mono ?_
    · exact SB_made _ _ _ _ (by simp)
    rintro e w1 ⟨rfl, hb1⟩
    rw [HV.out]
    have Hb1 := Lib.hid hb1
    obtain ⟨hc1, hf1⟩ := bcell hb1
    simp only [World.size_alloc] at hc1 hf1
    have k0 := hc1 w.heap.size 0 (by omega)
    have k1 := hc1 w.heap.size 1 (by omega)
    have k2 := hc1 w.heap.size 2 (by omega)
    have k3 := hc1 w.heap.size 3 (by omega)
    simp [go_sem] at k0 k1 k2 k3
    clear hb1
    have q1 : b < w.heap.size + 1 := by omega
    have q2 : b < w.heap.size + 1 + 1 := by omega
    have q3 : b ≠ w.heap.size := by omega
    go_wp2
    refine bodyPost_ret (v := .tuple #[.agg #[.int .i64 (L j).s, .int .i64 (L j).u, .int .i64 (L j).z, .bool (L j).f], .bool true]) (by simp [results, Try.results7, go_sem, k0, k1, k2, k3]) rfl ⟨by unfold victimV; rw [HV.out, if_neg (by omega)]; rfl, ?_⟩
    have h2 := below_upto ((Below.refl w.heap.size w).alloc (Nat.le_refl _) _) (below_upto ((Below.refl _ _).alloc (Nat.le_refl _) _) Hb1.out (Nat.le_refl _)) (Nat.le_refl _)
    exact (((h2.setCell (Nat.le_refl _) _).setCell (Nat.le_refl _) _).setCell (Nat.le_refl _) _).setCell (Nat.le_refl _) _

def known3 : Nat → Ld
  | 0 => ⟨1, 3, 10, false⟩
  | 1 => ⟨2, 1, 4, false⟩
  | _ => ⟨3, 2, 8, false⟩

theorem known_victim : victimV known3 3 = .tuple #[.agg #[.int .i64 2, .int .i64 1, .int .i64 4, .bool false], .bool true] := by
  have h : bestTo known3 (fun _ => false) 3 = 1 := by decide +kernel
  unfold victimV
  rw [h]
  rfl

set_option maxHeartbeats 1000000 in
theorem known_any (w : World) :
    Calls Try.prog 4 #[] w fun e w' => e = .returned (.bool true) ∧ Below w.heap.size w w' := by
  go_enter Try.func4, Try.ntmps4
  go_wp2_with fail
  refine (Victim_any 3 3 _ known3 _ (by omega) ?_).mono ?_
  · intro _
    refine ⟨_, _, rfl, by simp, fun k hk => ?_⟩
    match k, hk with
    | 0, _ => simp [go_sem, known3]
    | 1, _ => simp [go_sem, known3]
    | 2, _ => simp [go_sem, known3]
  rintro e w1 ⟨rfl, hb1⟩
  rw [known_victim]
  have Hb1 := Lib.hid hb1
  clear hb1
  go_wp2
  go_ret
  exact ⟨rfl, (below_upto ((Below.refl _ _).alloc (Nat.le_refl _) _) Hb1.out (Nat.le_refl _)).alloc (Nat.le_trans (by simp) Hb1.out.size) _⟩
end Go.Proofs.Yteckbhpjhohanaa
