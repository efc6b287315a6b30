/- segs: the table in memory; there, State, Used. segs: Take, Add, Fill. segs: Each, Count. segs: the first free segment; New, Load. segs: New. segs: Load. -/
import Derived.Test.YtlmgihnnphmmhaaMC
import Derived.Deep.RegionLaw
namespace Go.Proofs.Ytlmgihnnphmmhaa
open Go.RowKit Go.Maps
set_option linter.unusedVariables false
set_option linter.unusedSimpArgs false

@[simp, go_sem] theorem entF0 (a b c : Int) (w : World) : (Instr.field 98 (.agg #[.int .i64 a, .int .i64 b, .int .i64 c]) 0).run Try.prog w = .ok (.int .i64 a) w := by kernel_rfl
@[simp, go_sem] theorem entF1 (a b c : Int) (w : World) : (Instr.field 98 (.agg #[.int .i64 a, .int .i64 b, .int .i64 c]) 1).run Try.prog w = .ok (.int .i64 b) w := by kernel_rfl
/-- A table: how many segments; of each that is not free its state, what is used of it. -/
structure TbS where
  n : Nat
  ent : Nat → Option (Nat × Nat)
def TbS.st (s : TbS) (k : Nat) : Nat := ((s.ent k).getD (0, 0)).1
def TbS.us (s : TbS) (k : Nat) : Nat := ((s.ent k).getD (0, 0)).2
def encE (e : Nat × Nat) : Value := .agg #[.int .i64 (e.1 : Nat), .int .i64 (e.2 : Nat), .int .i64 0]
def entG (s : TbS) (k : Int) : Option Value := if 0 ≤ k then (s.ent k.toNat).map encE else none
structure TbAt (B : Nat) (w : World) (T M : Nat) (s : TbS) : Prop where
  c0 : w.cell? ⟨T, 0, none⟩ = some (.int .i64 (s.n : Nat))
  c1 : w.cell? ⟨T, 1, none⟩ = some (.map (some M))
  mp : ∃ c, MapIs Try.prog 103 w M (pF (entG s)) c
  lo : B ≤ T ∧ B ≤ M
  ok : ∀ k e, s.ent k = some e → k < s.n ∧ 0 < e.1 ∧ e.1 ≤ 2 ∧ e.2 ≤ 1048576
  bn : s.n ≤ 65536
section
variable {B : Nat} {w w' : World} {T M : Nat} {s : TbS} {S : Nat → Prop}
theorem TbAt.off (h : TbAt B w T M s) (ho : Off S w w') (hT : ¬ S T) (hM : ¬ S M) : TbAt B w' T M s :=
  ⟨(ho.cell (p := ⟨T, 0, none⟩) (lt_of_cell h.c0) hT).trans h.c0, (ho.cell (p := ⟨T, 1, none⟩) (lt_of_cell h.c0) hT).trans h.c1, h.mp.imp fun c hc => hc.off ho hM, h.lo, h.ok, h.bn⟩
theorem TbAt.up (h : TbAt B w T M s) (hb : Below w.heap.size w w') : TbAt B w' T M s := h.off (S := fun _ => False) (Off.of_below hb) id id
theorem TbAt.lt (h : TbAt B w T M s) : T < w.heap.size ∧ M < w.heap.size ∧ T ≠ M := by
  obtain ⟨c, hc⟩ := h.mp
  refine ⟨lt_of_cell h.c0, hc.lt, fun e => ?_⟩
  have := hc.no_cell 0
  rw [← e, h.c0] at this
  cases this
theorem zeroEntry (w : World) : (zeroValue 98).run Try.prog w = .ok (encE (0, 0)) w := by kernel_rfl
theorem TbAt.look (h : TbAt B w T M s) {k : Nat} (hk : k < 9223372036854775808) : (Instr.lookup 99 (.map (some M)) (.agg #[.int .i64 (k : Nat)]) false).run Try.prog w = .ok (encE ((s.ent k).getD (0, 0))) w := by
  obtain ⟨c, hc⟩ := h.mp
  obtain ⟨kl, hkl⟩ := name_key hk
  have := hc.look nameKeyed Try.underlying99 (zeroEntry w) hkl false
  rw [show (Value.agg #[.int .i64 (k : Nat)]) = placeV (k : Int) from rfl, pF_V] at this
  rw [show (Value.agg #[.int .i64 (k : Nat)]) = placeV (k : Int) from rfl, this]
  have he : entG s (k : Int) = (s.ent k).map encE := by simp [entG]
  rw [he]
  cases s.ent k <;> rfl
set_option maxHeartbeats 1000000 in
theorem tbThere_any (h : TbAt B w T M s) (k : Int) : Calls Try.prog 83 #[.pointer (some ⟨T, 0, none⟩), .int .i64 k] w fun e w' => e = .returned (.bool (decide (0 ≤ k ∧ k < (s.n : Int)))) ∧ w' = w := by
  have c0 := h.c0
  clear h
  by_cases h0 : 0 ≤ k
  · by_cases h1 : k < (s.n : Int)
    · have hd : decide (0 ≤ k ∧ k < (s.n : Int)) = true := by simp [h0, h1]
      rw [hd]
      go_enter Try.func83, Try.ntmps83
      go_wp2
      go_ret
      exact ⟨rfl, rfl⟩
    · have hd : decide (0 ≤ k ∧ k < (s.n : Int)) = false := by simp; omega
      rw [hd]
      go_enter Try.func83, Try.ntmps83
      go_wp2
      go_ret
      exact ⟨rfl, rfl⟩
  · have hd : decide (0 ≤ k ∧ k < (s.n : Int)) = false := by simp; omega
    rw [hd]
    go_enter Try.func83, Try.ntmps83
    go_wp2
    go_ret
    exact ⟨rfl, rfl⟩
set_option maxRecDepth 100000 in
set_option maxHeartbeats 1000000 in
theorem tbState_any (h : TbAt B w T M s) {k : Nat} (hk : k < s.n) : Calls Try.prog 82 #[.pointer (some ⟨T, 0, none⟩), .int .i64 (k : Nat)] w fun e w' => e = .returned (.int .i64 (s.st k : Nat)) ∧ w' = w := by
  have c1 := h.c1
  have hlk := h.look (k := k) (by have := h.bn; omega)
  unfold encE at hlk
  have HT := Lib.hid (tbThere_any h (k : Int))
  rw [show decide (0 ≤ (k : Int) ∧ (k : Int) < (s.n : Int)) = true by simp; omega] at HT
  clear h
  go_enter Try.func82, Try.ntmps82
  go_wp2_with fail
  refine HT.out.mono ?_
  rintro _ _ ⟨rfl, rfl⟩
  go_wp2
  go_ret
  exact ⟨rfl, rfl⟩
set_option maxRecDepth 100000 in
set_option maxHeartbeats 1000000 in
theorem tbUsed_any (h : TbAt B w T M s) {k : Nat} (hk : k < 9223372036854775808) : Calls Try.prog 20 #[.pointer (some ⟨T, 0, none⟩), .int .i64 (k : Nat)] w fun e w' => e = .returned (.int .i64 (s.us k : Nat)) ∧ w' = w := by
  have c1 := h.c1
  have hlk := h.look hk
  unfold encE at hlk
  clear h
  go_enter Try.func20, Try.ntmps20
  go_wp2
  go_ret
  exact ⟨rfl, rfl⟩
end
end Go.Proofs.Ytlmgihnnphmmhaa
namespace Go.Proofs.Ytlmgihnnphmmhaa
open Go.RowKit Go.Maps
set_option linter.unusedVariables false
set_option linter.unusedSimpArgs false

def TbS.setE (s : TbS) (k : Nat) (e : Nat × Nat) : TbS := { s with ent := fun j => if j = k then some e else s.ent j }
theorem entG_set (s : TbS) (k : Nat) (e : Nat × Nat) : entG (s.setE k e) = fun j => if j = (k : Int) then some (encE e) else entG s j := by
  funext j
  unfold entG
  by_cases h0 : 0 ≤ j
  · rw [if_pos h0, if_pos h0]
    by_cases hj : j = (k : Int)
    · subst hj; simp [TbS.setE]
    · rw [if_neg hj]
      simp only [TbS.setE]
      rw [if_neg (by omega)]
  · rw [if_neg h0, if_neg h0, if_neg (by omega)]
section
variable {B : Nat} {w w' : World} {T M : Nat} {s : TbS} {S : Nat → Prop}
theorem TbAt.put (h : TbAt B w T M s) {k : Nat} {e : Nat × Nat} (hk : k < s.n) (he : 0 < e.1 ∧ e.1 ≤ 2 ∧ e.2 ≤ 1048576) :
    ∃ w', (Instr.mapUpdate 99 (.map (some M)) (.agg #[.int .i64 (k : Nat)]) (encE e)).run Try.prog w = .ok () w' ∧ TbAt B w' T M (s.setE k e) ∧ Off (· = M) w w' := by
  obtain ⟨c, hc⟩ := h.mp
  obtain ⟨kl, hkl⟩ := name_key (n := k) (by have := h.bn; omega)
  obtain ⟨w', hu, hm, ho⟩ := hc.put nameKeyed Try.underlying99 (val := encE e) hkl
  rw [show (Value.agg #[.int .i64 (k : Nat)]) = placeV (k : Int) from rfl, pF_put, ← entG_set] at hm
  obtain ⟨l1, l2, l3⟩ := h.lt
  refine ⟨w', hu, ⟨(ho.cell (p := ⟨T, 0, none⟩) l1 l3).trans h.c0, (ho.cell (p := ⟨T, 1, none⟩) l1 l3).trans h.c1, ⟨_, hm⟩, h.lo, fun j e' hj => ?_, h.bn⟩, ho⟩
  simp only [TbS.setE] at hj
  split at hj
  · rename_i hjk
    cases hj
    subst hjk
    exact ⟨hk, he.1, he.2.1, he.2.2⟩
  · exact h.ok j e' hj
def TkPost (B : Nat) (w : World) (T M : Nat) (s : TbS) (k : Nat) (e : Ending) (w' : World) : Prop :=
  e = .returned (.tuple #[.int .i64 (k : Nat), .int .i64 0]) ∧ TbAt B w' T M (s.setE k (1, 0)) ∧ Off (· = M) w w'
set_option maxRecDepth 100000 in
set_option maxHeartbeats 2000000 in
theorem tbTake_any (h : TbAt B w T M s) {k : Nat} (hk : k < s.n) (hf : s.ent k = none) (hl : ∀ j, j < k → s.ent j ≠ none) :
    Calls Try.prog 49 #[.pointer (some ⟨T, 0, none⟩)] w (TkPost B w T M s k) := by
  have c0 := h.c0
  have c1 := h.c1
  have hbn := h.bn
  have H := Lib.hid h
  obtain ⟨w2, hu, ht, ho⟩ := h.put hk (e := (1, 0)) (by simp)
  have HU := Lib.hid hu
  have HT := Lib.hid ht
  have HO := Lib.hid ho
  clear h hu ht ho
  go_enter Try.func49, Try.ntmps49
  go_wp2
  go_loop [9] (fun i => ∃ j : Nat, j ≤ k ∧ i = .int .i64 j) (fun i => k - (intOf i).toNat)
  case atStart => exact ⟨0, Nat.zero_le _, rfl⟩
  case round =>
    obtain ⟨j, hj, rfl⟩ := hrel
    have HST := Lib.hid (tbState_any H.out (k := j) (by omega))
    have i1 : (j : Int) < (s.n : Int) := by omega
    by_cases hjk : j < k
    · have hne : 0 < s.st j := by
        unfold TbS.st
        cases he : s.ent j with
        | none => exact absurd he (hl j hjk)
        | some e => exact (H.out.ok j e he).2.1
      have k1 : ((s.st j : Nat) : Int) ≠ 0 := by omega
      have k2 : (((s.st j : Nat) : Int) == 0) = false := by simp; omega
      generalize s.st j = x at *
      go_wp2_with fail
      refine HST.out.mono ?_
      rintro _ _ ⟨rfl, rfl⟩
      go_wp2
      go_round
      case rel => exact ⟨j + 1, by omega, by go_num⟩
      case measure => simp [intOf]; omega
    · obtain rfl : j = k := by omega
      have hz : s.st j = 0 := by unfold TbS.st; rw [hf]; rfl
      rw [hz] at HST
      clear hf hl hz
      go_wp2_with fail
      refine HST.out.mono ?_
      rintro _ w1 ⟨rfl, rfl⟩
      have hu := HU.out
      unfold encE at hu
      have hu' : (Instr.mapUpdate 99 (.map (some M)) (.agg #[.int .i64 (j : Nat)]) (.agg #[.int .i64 1, .int .i64 0, .int .i64 0])).run Try.prog w1 = .ok () w2 := hu
      clear hu
      go_wp2
      go_ret2
      exact ⟨rfl, HT.out, HO.out⟩
set_option maxHeartbeats 1000000 in
theorem fill1_any {w : World} {p : Nat} {v : Value} (h : w.cell? ⟨p, 0, none⟩ = some v) (hz : w.frozen? ⟨p, 0, none⟩ = false) (hv : ∃ i : Int, v = .int .i64 i) :
    Calls Try.prog 104 #[.pointer (some ⟨p, 0, none⟩)] w fun e w' => e = .returned (.tuple #[]) ∧ w' = w.setCell ⟨p, 0, none⟩ (.int .i64 2) := by
  obtain ⟨i, rfl⟩ := hv
  go_enter Try.func104, Try.ntmps104
  go_wp2
  go_end0
  exact ⟨rfl, rfl⟩
def FlPost (B : Nat) (w : World) (T M : Nat) (s : TbS) (k : Nat) (x : Nat) (e : Ending) (w' : World) : Prop :=
  e = .returned (.int .i64 0) ∧ TbAt B w' T M (s.setE k (2, x)) ∧ Off (· = M) w w'
set_option maxRecDepth 100000 in
set_option maxHeartbeats 2000000 in
theorem tbTurn_any (h : TbAt B w T M s) {k x : Nat} (hk : k < s.n) (hf : s.ent k = some (1, x)) :
    Calls Try.prog 103 #[.pointer (some ⟨T, 0, none⟩), .int .i64 (k : Nat), .int .i64 1, .func (.func 104) #[] #[]] w (FlPost B w T M s k x) := by
  have c0 := h.c0
  have c1 := h.c1
  have H := Lib.hid h
  have HTH := Lib.hid (tbThere_any h (k : Int))
  rw [show decide (0 ≤ (k : Int) ∧ (k : Int) < (s.n : Int)) = true by simp; omega] at HTH
  have HST := Lib.hid (tbState_any h hk)
  rw [show s.st k = 1 by unfold TbS.st; rw [hf]; rfl] at HST
  have hlk := h.look (k := k) (by have := h.bn; omega)
  rw [hf] at hlk
  have hlk2 : (Instr.lookup 99 (.map (some M)) (.agg #[.int .i64 (k : Nat)]) false).run Try.prog w = .ok (.agg #[.int .i64 1, .int .i64 (x : Nat), .int .i64 0]) w := hlk
  have hx := (h.ok k _ hf).2.2.2
  obtain ⟨l1, l2, l3⟩ := h.lt
  have HB : Hid (∀ w', Below w.heap.size w w' → ∃ w2, (Instr.mapUpdate 99 (.map (some M)) (.agg #[.int .i64 (k : Nat)]) (.agg #[.int .i64 2, .int .i64 (x : Nat), .int .i64 0])).run Try.prog w' = .ok () w2 ∧ TbAt B w2 T M (s.setE k (2, x)) ∧ Off (· = M) w w2) := fun w' hb => by
    obtain ⟨w2, hu, ht, ho⟩ := (h.up hb).put hk (e := (2, x)) ⟨by simp, by simp, hx⟩
    exact ⟨w2, hu, ht, (Off.of_below hb).trans ho⟩
  clear h hlk hf hx
  go_enter Try.func103, Try.ntmps103
  go_wp2_with fail
  refine HTH.out.mono ?_
  rintro _ _ ⟨rfl, rfl⟩
  go_wp2_with fail
  refine HST.out.mono ?_
  rintro _ w1 ⟨rfl, rfl⟩
  clear HTH HST
  obtain ⟨W, hW⟩ : ∃ W, W = w1.alloc (.cells #[.int .i64 1, .int .i64 (x : Nat), .int .i64 0] 98) := ⟨_, rfl⟩
  have h0 : W.heap[w1.heap.size]? = some (.cells #[.int .i64 1, .int .i64 (x : Nat), .int .i64 0] 98 (0, 0)) := by rw [hW]; exact heap_alloc_new _ _
  have hbW : Below w1.heap.size w1 W := by rw [hW]; exact (Below.refl _ _).alloc (Nat.le_refl _) _
  have HF1 := Lib.hid (fill1_any (w := W) (p := w1.heap.size) (v := .int .i64 1) (by rw [cell_of_row _ _ _ _ _ _ h0]; rfl) (frozen_of_row _ _ _ _ _ h0) ⟨1, rfl⟩)
  have h1 : (W.setCell ⟨w1.heap.size, 0, none⟩ (.int .i64 2)).heap[w1.heap.size]? = some (.cells #[.int .i64 2, .int .i64 (x : Nat), .int .i64 0] 98 (0, 0)) := by
    rw [heap_setCell_same _ _ _ _ _ _ h0]; rfl
  have hb1 : Below w1.heap.size w1 (W.setCell ⟨w1.heap.size, 0, none⟩ (.int .i64 2)) := hbW.setCell (p := ⟨w1.heap.size, 0, none⟩) (Nat.le_refl _) _
  have H1 := Lib.hid h1
  have HB1 := Lib.hid hb1
  have HBW := Lib.hid hbW
  have HW := Lib.hid hW
  clear h0 hbW h1 hb1
  go_upto_region 6 with (fail)
  rw [← HW.out]
  clear hW HW hlk2
  go_wp2_with fail
  refine HF1.out.mono ?_
  rintro _ _ ⟨rfl, rfl⟩
  clear HF1
  go_upto_region 7 with (fail)
  refine wp_forget (fun V => V.heap[w1.heap.size]? = some (.cells #[.int .i64 2, .int .i64 (x : Nat), .int .i64 0] 98 (0, 0)) ∧ Below w1.heap.size w1 V) ⟨H1.out, HB1.out⟩ ?_
  clear H1 HB1
  rintro V ⟨hV, hbV⟩
  have d0 : V.cell? ⟨w1.heap.size, 0, none⟩ = some (.int .i64 2) := by rw [cell_of_row _ _ _ _ _ _ hV]; rfl
  have d1 : V.cell? ⟨w1.heap.size, 1, none⟩ = some (.int .i64 (x : Nat)) := by rw [cell_of_row _ _ _ _ _ _ hV]; rfl
  have d2 : V.cell? ⟨w1.heap.size, 2, none⟩ = some (.int .i64 0) := by rw [cell_of_row _ _ _ _ _ _ hV]; rfl
  have c1' : V.cell? ⟨T, 1, none⟩ = some (.map (some M)) := (hbV.cell (p := ⟨T, 1, none⟩) l1).trans c1
  obtain ⟨w2, hu, ht, ho⟩ := HB.out V.drew hbV.drew
  have HT := Lib.hid ht
  have HO := Lib.hid ho
  clear ht ho hV HB H c0 c1
  go_still_tail 7, (by kernel_rfl)
  change wpList _ _ _ _ _ V.drew
  go_wp2
  go_ret
  exact ⟨rfl, HT.out, HO.out⟩
set_option maxHeartbeats 1000000 in
theorem tbFill_any (h : TbAt B w T M s) {k x : Nat} (hk : k < s.n) (hf : s.ent k = some (1, x)) :
    Calls Try.prog 81 #[.pointer (some ⟨T, 0, none⟩), .int .i64 (k : Nat)] w (FlPost B w T M s k x) := by
  have HT := Lib.hid (tbTurn_any h hk hf)
  clear h
  go_enter Try.func81, Try.ntmps81
  go_wp2_with fail
  refine HT.out.mono ?_
  rintro _ w2 ⟨rfl, h2, h3⟩
  have H2 := Lib.hid h2
  have H3 := Lib.hid h3
  clear h2 h3
  go_wp2
  go_ret
  exact ⟨rfl, H2.out, H3.out⟩
def AdPost (B : Nat) (w : World) (T M : Nat) (s : TbS) (k : Nat) (e2 : Nat × Nat) (e : Ending) (w' : World) : Prop :=
  e = .returned (.int .i64 0) ∧ TbAt B w' T M (s.setE k e2) ∧ Off (· = M) w w'
set_option maxRecDepth 100000 in
set_option maxHeartbeats 2000000 in
theorem tbAdd_any (h : TbAt B w T M s) {k st us : Nat} {m : Int} {us' : Nat} (hf : s.ent k = some (st, us)) (hm : (us : Int) + m = (us' : Int)) (hus : us' ≤ 1048576) :
    Calls Try.prog 50 #[.pointer (some ⟨T, 0, none⟩), .int .i64 (k : Nat), .int .i64 m] w (AdPost B w T M s k (st, us')) := by
  have c0 := h.c0
  have c1 := h.c1
  have hok := h.ok k _ hf
  simp only at hok
  have HTH : Hid (∀ w', Below w.heap.size w w' → Calls Try.prog 83 #[.pointer (some ⟨T, 0, none⟩), .int .i64 (k : Nat)] w' fun e w'' => e = .returned (.bool true) ∧ w'' = w') := fun w' hb => by
    have := tbThere_any (h.up hb) (k : Int)
    rwa [show decide (0 ≤ (k : Int) ∧ (k : Int) < (s.n : Int)) = true by simp; omega] at this
  have hlk := h.look (k := k) (by have := h.bn; omega)
  rw [hf] at hlk
  have hlk2 : (Instr.lookup 99 (.map (some M)) (.agg #[.int .i64 (k : Nat)]) false).run Try.prog w = .ok (.agg #[.int .i64 (st : Nat), .int .i64 (us : Nat), .int .i64 0]) w := hlk
  obtain ⟨l1, l2, l3⟩ := h.lt
  have HB : Hid (∀ w', Below w.heap.size w w' → ∃ w2, (Instr.mapUpdate 99 (.map (some M)) (.agg #[.int .i64 (k : Nat)]) (.agg #[.int .i64 (st : Nat), .int .i64 (us' : Nat), .int .i64 0])).run Try.prog w' = .ok () w2 ∧ TbAt B w2 T M (s.setE k (st, us')) ∧ Off (· = M) w w2) := fun w' hb => by
    obtain ⟨w2, hu, ht, ho⟩ := (h.up hb).put hok.1 (e := (st, us')) ⟨hok.2.1, hok.2.2.1, hus⟩
    exact ⟨w2, hu, ht, (Off.of_below hb).trans ho⟩
  have i1 : IntKind.i64.wrap (-(us : Int)) = -(us : Int) := IntWalk.i64_in _ (by omega)
  have i2 : ¬ m < -(us : Int) := by omega
  have i3 : ¬ m > 1073741824 - (us : Int) := by omega
  have i4 : ((st : Int) == 0) = false := by simp; omega
  have i5 : IntKind.i64.wrap (1073741824 - (us : Int)) = 1073741824 - (us : Int) := IntWalk.i64_in _ (by omega)
  clear h hlk hf
  go_enter Try.func50, Try.ntmps50
  go_upto_region 4 with (fail)
  obtain ⟨W, hW⟩ : ∃ W, W = w.alloc (.cells #[.int .i64 (st : Nat), .int .i64 (us : Nat), .int .i64 0] 98) := ⟨_, rfl⟩
  have h0 : W.heap[w.heap.size]? = some (.cells #[.int .i64 (st : Nat), .int .i64 (us : Nat), .int .i64 0] 98 (0, 0)) := by rw [hW]; exact heap_alloc_new _ _
  have hbW : Below w.heap.size w W := by rw [hW]; exact (Below.refl _ _).alloc (Nat.le_refl _) _
  refine wp_forget (fun V => V.heap[w.heap.size]? = some (.cells #[.int .i64 (st : Nat), .int .i64 (us : Nat), .int .i64 0] 98 (0, 0)) ∧ Below w.heap.size w V) (by rw [← hW]; exact ⟨h0, hbW⟩) ?_
  clear hW h0 hbW hlk2 W
  rintro V ⟨hV, hbV⟩
  have d0 : V.cell? ⟨w.heap.size, 0, none⟩ = some (.int .i64 (st : Nat)) := by rw [cell_of_row _ _ _ _ _ _ hV]; rfl
  have d1 : V.cell? ⟨w.heap.size, 1, none⟩ = some (.int .i64 (us : Nat)) := by rw [cell_of_row _ _ _ _ _ _ hV]; rfl
  have z1 : V.frozen? ⟨w.heap.size, 1, none⟩ = false := frozen_of_row _ _ _ _ _ hV
  have HTH2 := Lib.hid (HTH.out V hbV)
  have HN : Hid ((V.setCell ⟨w.heap.size, 1, none⟩ (.int .i64 (us' : Nat))).heap[w.heap.size]? = some (.cells #[.int .i64 (st : Nat), .int .i64 (us' : Nat), .int .i64 0] 98 (0, 0)) ∧ Below w.heap.size w (V.setCell ⟨w.heap.size, 1, none⟩ (.int .i64 (us' : Nat)))) :=
    ⟨by rw [heap_setCell_same _ _ _ _ _ _ hV]; rfl, hbV.setCell (p := ⟨w.heap.size, 1, none⟩) (Nat.le_refl _) _⟩
  clear hV hbV HTH
  go_wp2_with fail
  refine HTH2.out.mono ?_
  rintro _ V1 ⟨rfl, rfl⟩
  clear HTH2
  go_upto_region 3 with (fail)
  refine wp_forget (fun V => V.heap[w.heap.size]? = some (.cells #[.int .i64 (st : Nat), .int .i64 (us' : Nat), .int .i64 0] 98 (0, 0)) ∧ Below w.heap.size w V) HN.out ?_
  clear HN d0 d1 z1
  rintro V ⟨hV, hbV⟩
  have d0 : V.cell? ⟨w.heap.size, 0, none⟩ = some (.int .i64 (st : Nat)) := by rw [cell_of_row _ _ _ _ _ _ hV]; rfl
  have d1 : V.cell? ⟨w.heap.size, 1, none⟩ = some (.int .i64 (us' : Nat)) := by rw [cell_of_row _ _ _ _ _ _ hV]; rfl
  have d2 : V.cell? ⟨w.heap.size, 2, none⟩ = some (.int .i64 0) := by rw [cell_of_row _ _ _ _ _ _ hV]; rfl
  have c1' : V.cell? ⟨T, 1, none⟩ = some (.map (some M)) := (hbV.cell (p := ⟨T, 1, none⟩) l1).trans c1
  obtain ⟨w2, hu, ht, ho⟩ := HB.out V.drew hbV.drew
  have HT := Lib.hid ht
  have HO := Lib.hid ho
  clear ht ho hV HB c0 c1
  go_still_tail 7, (by kernel_rfl)
  change wpList _ _ _ _ _ V.drew
  go_wp2
  go_ret
  exact ⟨rfl, HT.out, HO.out⟩
end
end Go.Proofs.Ytlmgihnnphmmhaa
namespace Go.Proofs.Ytlmgihnnphmmhaa
open Go.RowKit Go.Maps
set_option linter.unusedVariables false
set_option linter.unusedSimpArgs false

/-- Of the first j segments those of a state. -/
def TbS.cnt (s : TbS) (x : Nat) : Nat → Nat
  | 0 => 0
  | j + 1 => s.cnt x j + if s.st j = x then 1 else 0
theorem TbS.cnt_le (s : TbS) (x j : Nat) : s.cnt x j ≤ j := by
  induction j with
  | zero => exact Nat.le_refl _
  | succ j ih => unfold TbS.cnt; split <;> omega
section
variable {B : Nat} {w w' : World} {T M : Nat} {s : TbS} {S : Nat → Prop}
set_option maxHeartbeats 1000000 in
theorem count1_any {w : World} {p q : Nat} {x y c : Nat} (k u : Int) (hp : w.cell? ⟨p, 0, none⟩ = some (.int .i64 (x : Nat))) (hq : w.cell? ⟨q, 0, none⟩ = some (.int .i64 (c : Nat))) (hz : w.frozen? ⟨q, 0, none⟩ = false) (hc : c ≤ 65536) :
    Calls Try.prog 56 #[.int .i64 k, .int .i64 (y : Nat), .int .i64 u, .pointer (some ⟨p, 0, none⟩), .pointer (some ⟨q, 0, none⟩)] w fun e w' => e = .returned (.bool true) ∧ w' = if y = x then w.setCell ⟨q, 0, none⟩ (.int .i64 ((c + 1 : Nat) : Int)) else w := by
  by_cases hy : y = x
  · subst hy
    rw [if_pos rfl, Int.natCast_add]
    go_enter Try.func56, Try.ntmps56
    go_wp2
    go_ret
    exact ⟨rfl, rfl⟩
  · rw [if_neg hy]
    have k1 : ((y : Int) == (x : Int)) = false := by simp; omega
    go_enter Try.func56, Try.ntmps56
    go_wp2
    go_ret
    exact ⟨rfl, rfl⟩
set_option maxRecDepth 100000 in
set_option maxHeartbeats 2000000 in
theorem eachCount_any (h : TbAt B w T M s) {p q x : Nat} (hp : w.cell? ⟨p, 0, none⟩ = some (.int .i64 (x : Nat))) (hq : w.cell? ⟨q, 0, none⟩ = some (.int .i64 0)) (hz : w.frozen? ⟨q, 0, none⟩ = false) (hpq : p ≠ q) (hqT : q ≠ T) (hqM : q ≠ M) :
    Calls Try.prog 55 #[.pointer (some ⟨T, 0, none⟩), .func (.func 56) #[] #[.pointer (some ⟨p, 0, none⟩), .pointer (some ⟨q, 0, none⟩)]] w
      fun e w' => e = .returned (.tuple #[]) ∧ w'.cell? ⟨q, 0, none⟩ = some (.int .i64 (s.cnt x s.n : Nat)) ∧ Off (· = q) w w' := by
  have c0 := h.c0
  have H := Lib.hid h
  have hbn := h.bn
  have HP := Lib.hid hp
  have HQ := Lib.hid hq
  have HZ := Lib.hid hz
  have lq := lt_of_cell hq
  have lp := lt_of_cell hp
  clear h hp hq hz
  go_enter Try.func55, Try.ntmps55
  go_wp2
  go_loopw [9] (fun i wr => ∃ j : Nat, j ≤ s.n ∧ i = .int .i64 j ∧ Off (fun g => g = q) w wr ∧ wr.cell? ⟨q, 0, none⟩ = some (.int .i64 (s.cnt x j : Nat)) ∧ wr.frozen? ⟨q, 0, none⟩ = false) (fun i _ => s.n - (intOf i).toNat)
  case atStart => exact ⟨0, Nat.zero_le _, rfl, Off.refl _ _, HQ.out, HZ.out⟩
  case round =>
    obtain ⟨j, hj, rfl, ho, hc, hz⟩ := hrel
    have HO := Lib.hid ho
    have HC := Lib.hid hc
    have HZ2 := Lib.hid hz
    have HR := Lib.hid (H.out.off ho (fun e => hqT e.symm) (fun e => hqM e.symm))
    clear ho hc c0 hz
    by_cases hjn : j < s.n
    · have i1 : (j : Int) < (s.n : Int) := by omega
      have HST := Lib.hid (tbState_any HR.out hjn)
      have HUS := Lib.hid (tbUsed_any HR.out (k := j) (by omega))
      have HC1 := Lib.hid (count1_any (w := wr) (p := p) (q := q) (x := x) (y := s.st j) (c := s.cnt x j) (j : Int) (s.us j : Nat) ((HO.out.cell (p := ⟨p, 0, none⟩) lp hpq).trans HP.out) HC.out HZ2.out (by have := s.cnt_le x j; omega))
      have HS : Hid (s.cnt x (j + 1) = s.cnt x j + if s.st j = x then 1 else 0) := rfl
      generalize s.us j = uj at *
      go_wp2_with fail
      refine HST.out.mono ?_
      rintro _ w1 ⟨rfl, rfl⟩
      clear HST
      go_wp2_with fail
      refine HUS.out.mono ?_
      rintro _ w1 ⟨rfl, rfl⟩
      clear HUS
      go_wp2_with fail
      refine HC1.out.mono ?_
      rintro _ w2 ⟨rfl, h2⟩
      have HN : Hid (Off (fun g => g = q) w w2 ∧ w2.cell? ⟨q, 0, none⟩ = some (.int .i64 (s.cnt x (j + 1) : Nat)) ∧ w2.frozen? ⟨q, 0, none⟩ = false) := by
        rw [HS.out]
        by_cases hy : s.st j = x
        · rw [if_pos hy] at h2 ⊢
          subst h2
          exact ⟨HO.out.setCell (p := ⟨q, 0, none⟩) rfl _, World.cell?_setCell_same _ _ _ HC.out, by rw [World.frozen?_setCell]; exact HZ2.out⟩
        · rw [if_neg hy] at h2 ⊢
          subst h2
          exact ⟨HO.out, HC.out, HZ2.out⟩
      clear h2 HC1
      go_wp2
      go_roundw
      case rel => exact ⟨j + 1, by omega, by go_num, HN.out⟩
      case measure => simp [intOf]; omega
    · obtain rfl : j = s.n := by omega
      go_wp2
      go_end0
      exact ⟨rfl, HC.out, HO.out⟩
set_option maxRecDepth 100000 in
set_option maxHeartbeats 2000000 in
theorem tbCount_any (h : TbAt B w T M s) (x : Nat) :
    Calls Try.prog 22 #[.pointer (some ⟨T, 0, none⟩), .int .i64 (x : Nat)] w fun e w' => e = .returned (.int .i64 (s.cnt x s.n : Nat)) ∧ Below w.heap.size w w' := by
  obtain ⟨l1, l2, l3⟩ := h.lt
  obtain ⟨W, hW⟩ : ∃ W, W = (w.alloc (.cells #[.int .i64 (x : Nat)] 3)).alloc (.cells #[.int .i64 0] 3) := ⟨_, rfl⟩
  have b1 : W.heap[w.heap.size]? = some (.cells #[.int .i64 (x : Nat)] 3 (0, 0)) := by rw [hW]; exact heap_alloc2_old _ _ _
  have b2 : W.heap[w.heap.size + 1]? = some (.cells #[.int .i64 0] 3 (0, 0)) := by rw [hW]; exact heap_alloc2_new _ _ _
  have hb : Below w.heap.size w W := by rw [hW]; exact ((Below.refl _ _).alloc (Nat.le_refl _) _).alloc (by simp) _
  have HE := Lib.hid (eachCount_any (h.up hb) (p := w.heap.size) (q := w.heap.size + 1) (x := x) (by rw [cell_of_row _ _ _ _ _ _ b1]; rfl) (by rw [cell_of_row _ _ _ _ _ _ b2]; rfl) (frozen_of_row _ _ _ _ _ b2) (by omega) (by omega) (by omega))
  have HB := Lib.hid hb
  have HW := Lib.hid hW
  clear h b1 b2 hb
  go_enter Try.func22, Try.ntmps22
  go_upto_region 2 with (fail)
  rw [← HW.out]
  clear hW HW
  go_wp2_with fail
  refine HE.out.mono ?_
  rintro _ w2 ⟨rfl, hc, ho⟩
  have HN : Hid (Below w.heap.size w w2) := HB.out.trans (ho.below (fun g e => by omega) HB.out.size)
  clear ho HE HB
  go_wp2
  go_ret
  exact ⟨rfl, HN.out⟩
end
end Go.Proofs.Ytlmgihnnphmmhaa
namespace Go.Proofs.Ytlmgihnnphmmhaa
open Go.RowKit Go.Maps
set_option linter.unusedVariables false
set_option linter.unusedSimpArgs false

/-- The least free segment, if any. -/
def Fst (s : TbS) (r : Option Nat) : Prop := match r with
  | some k => k < s.n ∧ s.st k = 0 ∧ ∀ j, j < k → s.st j ≠ 0
  | none => ∀ j, j < s.n → s.st j ≠ 0
def kOf : Option Nat → Int
  | some k => k
  | none => -1
def eOf : Option Nat → Int
  | some _ => 0
  | none => 7
section
variable {B : Nat} {w w' : World} {T M : Nat} {s : TbS} {S : Nat → Prop}
set_option maxHeartbeats 1000000 in
theorem next1_any {w : World} {p q : Nat} {v v2 : Int} (k y : Nat) (u : Int) (hp : w.cell? ⟨p, 0, none⟩ = some (.int .i64 v)) (hz : w.frozen? ⟨p, 0, none⟩ = false) (hq : w.cell? ⟨q, 0, none⟩ = some (.int .i64 v2)) (hz2 : w.frozen? ⟨q, 0, none⟩ = false) (hpq : p ≠ q) :
    Calls Try.prog 78 #[.int .i64 (k : Nat), .int .i64 (y : Nat), .int .i64 u, .pointer (some ⟨p, 0, none⟩), .pointer (some ⟨q, 0, none⟩)] w
      fun e w' => e = .returned (.bool (decide (y ≠ 0))) ∧ w' = if y = 0 then (w.setCell ⟨p, 0, none⟩ (.int .i64 (k : Nat))).setCell ⟨q, 0, none⟩ (.int .i64 0) else w := by
  by_cases hy : y = 0
  · subst hy
    have hd : decide ((0 : Nat) ≠ 0) = false := rfl
    rw [if_pos rfl, hd]
    go_enter Try.func78, Try.ntmps78
    go_wp2
    go_ret
    exact ⟨rfl, rfl⟩
  · have hd : decide (y ≠ 0) = true := by simp [hy]
    rw [if_neg hy, hd]
    have k1 : ((y : Int) == 0) = false := by simp; omega
    have k2 : ((y : Int) != 0) = true := by simp; omega
    go_enter Try.func78, Try.ntmps78
    go_wp2
    go_ret
    exact ⟨rfl, rfl⟩
set_option maxRecDepth 100000 in
set_option maxHeartbeats 2000000 in
theorem eachNext_any (h : TbAt B w T M s) {p q : Nat} (hp : w.cell? ⟨p, 0, none⟩ = some (.int .i64 (-1))) (hz : w.frozen? ⟨p, 0, none⟩ = false) (hq : w.cell? ⟨q, 0, none⟩ = some (.int .i64 7)) (hz2 : w.frozen? ⟨q, 0, none⟩ = false) (hpq : p ≠ q) (hT : p ≠ T ∧ p ≠ M ∧ q ≠ T ∧ q ≠ M) :
    Calls Try.prog 55 #[.pointer (some ⟨T, 0, none⟩), .func (.func 78) #[] #[.pointer (some ⟨p, 0, none⟩), .pointer (some ⟨q, 0, none⟩)]] w
      fun e w' => e = .returned (.tuple #[]) ∧ ∃ r, Fst s r ∧ w'.cell? ⟨p, 0, none⟩ = some (.int .i64 (kOf r)) ∧ w'.cell? ⟨q, 0, none⟩ = some (.int .i64 (eOf r)) ∧ w'.frozen? ⟨p, 0, none⟩ = false ∧ w'.frozen? ⟨q, 0, none⟩ = false ∧ Off (fun g => g = p ∨ g = q) w w' := by
  have c0 := h.c0
  have H := Lib.hid h
  have hbn := h.bn
  have HP := Lib.hid hp
  have HQ := Lib.hid hq
  have HZ := Lib.hid hz
  have HZ2 := Lib.hid hz2
  clear h hp hq hz hz2
  obtain ⟨wo, hwo⟩ : ∃ wo, wo = w := ⟨_, rfl⟩
  have H00 : Hid (wo = w) := hwo
  clear hwo
  go_enter Try.func55, Try.ntmps55
  go_wp2
  go_loop [9] (fun i => ∃ j : Nat, j ≤ s.n ∧ i = .int .i64 j ∧ ∀ i, i < j → s.st i ≠ 0) (fun i => s.n - (intOf i).toNat)
  case atStart => exact ⟨0, Nat.zero_le _, rfl, fun i hi => absurd hi (by omega)⟩
  case round =>
    obtain ⟨j, hj, rfl, hall⟩ := hrel
    have HALL := Lib.hid hall
    clear hall
    by_cases hjn : j < s.n
    · have i1 : (j : Int) < (s.n : Int) := by omega
      have HST := Lib.hid (tbState_any H.out hjn)
      have HUS := Lib.hid (tbUsed_any H.out (k := j) (by omega))
      have HC1 := Lib.hid (next1_any (w := w) (p := p) (q := q) j (s.st j) (s.us j : Nat) HP.out HZ.out HQ.out HZ2.out hpq)
      generalize s.us j = uj at *
      by_cases hy : s.st j = 0
      · have HF : Hid (Fst s (some j)) := ⟨hjn, hy, HALL.out⟩
        rw [hy] at HST HC1
        rw [if_pos rfl] at HC1
        have hd : decide ((0 : Nat) ≠ 0) = false := rfl
        rw [hd] at HC1
        have HN : Hid (((w.setCell ⟨p, 0, none⟩ (.int .i64 (j : Nat))).setCell ⟨q, 0, none⟩ (.int .i64 0)).cell? ⟨p, 0, none⟩ = some (.int .i64 (kOf (some j))) ∧ ((w.setCell ⟨p, 0, none⟩ (.int .i64 (j : Nat))).setCell ⟨q, 0, none⟩ (.int .i64 0)).cell? ⟨q, 0, none⟩ = some (.int .i64 (eOf (some j))) ∧
            ((w.setCell ⟨p, 0, none⟩ (.int .i64 (j : Nat))).setCell ⟨q, 0, none⟩ (.int .i64 0)).frozen? ⟨p, 0, none⟩ = false ∧ ((w.setCell ⟨p, 0, none⟩ (.int .i64 (j : Nat))).setCell ⟨q, 0, none⟩ (.int .i64 0)).frozen? ⟨q, 0, none⟩ = false ∧ Off (fun g => g = p ∨ g = q) w ((w.setCell ⟨p, 0, none⟩ (.int .i64 (j : Nat))).setCell ⟨q, 0, none⟩ (.int .i64 0))) := by
          have n1 : (⟨q, 0, none⟩ : Addr) ≠ ⟨p, 0, none⟩ := fun e => by injection e with e1; exact hpq e1.symm
          refine ⟨?_, ?_, by rw [World.frozen?_setCell, World.frozen?_setCell]; exact HZ.out, by rw [World.frozen?_setCell, World.frozen?_setCell]; exact HZ2.out, ((Off.refl _ _).setCell (p := ⟨p, 0, none⟩) (.inl rfl) _).setCell (p := ⟨q, 0, none⟩) (.inr rfl) _⟩
          · rw [World.cell?_setCell_other _ _ _ _ n1]
            exact World.cell?_setCell_same _ _ _ HP.out
          · exact World.cell?_setCell_same _ _ _ ((World.cell?_setCell_other _ _ _ _ n1.symm).trans HQ.out)
        go_wp2_with fail
        refine HST.out.mono ?_
        rintro _ w1 ⟨rfl, rfl⟩
        clear HST
        go_wp2_with fail
        refine HUS.out.mono ?_
        rintro _ w1 ⟨rfl, rfl⟩
        clear HUS
        go_wp2_with fail
        refine HC1.out.mono ?_
        rintro _ w2 ⟨rfl, rfl⟩
        clear HC1
        go_wp2
        refine bodyPost_ret (results_none rfl _ _ _) rfl ?_
        exact ⟨rfl, some j, HF.out, HN.out⟩
      · have hd : decide (s.st j ≠ 0) = true := by simp [hy]
        rw [if_neg hy, hd] at HC1
        have HALL2 : Hid (∀ i, i < j + 1 → s.st i ≠ 0) := fun i hi => by
          by_cases h : i = j
          · subst h; exact hy
          · exact HALL.out i (by omega)
        clear hy hd
        generalize s.st j = x at *
        go_wp2_with fail
        refine HST.out.mono ?_
        rintro _ w1 ⟨rfl, rfl⟩
        clear HST
        go_wp2_with fail
        refine HUS.out.mono ?_
        rintro _ w1 ⟨rfl, rfl⟩
        clear HUS
        go_wp2_with fail
        refine HC1.out.mono ?_
        rintro _ w2 ⟨rfl, rfl⟩
        clear HC1
        go_wp2
        go_round
        case rel => exact ⟨j + 1, by omega, by go_num, HALL2.out⟩
        case measure => simp [intOf]; omega
    · obtain rfl : j = s.n := by omega
      go_wp2
      go_end0
      exact ⟨rfl, none, HALL.out, HP.out, HQ.out, HZ.out, HZ2.out, Off.refl _ _⟩
end
end Go.Proofs.Ytlmgihnnphmmhaa
namespace Go.Proofs.Ytlmgihnnphmmhaa
open Go.RowKit Go.Maps
set_option linter.unusedVariables false
set_option linter.unusedSimpArgs false

def tb0 (n : Nat) : TbS := ⟨n, fun _ => none⟩
theorem entG_tb0 (n : Nat) : entG (tb0 n) = fun _ => none := by
  funext k
  unfold entG tb0
  split <;> rfl
set_option maxRecDepth 100000 in
set_option maxHeartbeats 1000000 in
theorem tbNewBad_any (w : World) {n : Nat} (h : n < 1 ∨ 65536 < n) (hb : n < 9223372036854775808) :
    Calls Try.prog 89 #[.int .i64 (n : Nat)] w fun e w' => e = .returned (.tuple #[.pointer none, .int .i64 1]) ∧ w' = w := by
  by_cases h1 : n < 1
  · have k1 : decide ((n : Int) < 1) = true := decide_eq_true (by omega)
    have k2 : (n : Int) < 1 := by omega
    clear h hb
    go_enter Try.func89, Try.ntmps89
    go_wp2
    go_ret2
    exact ⟨rfl, rfl⟩
  · have k1 : ¬ (n : Int) < 1 := by omega
    have k2 : (65536 : Int) < (n : Int) := by omega
    clear h hb
    go_enter Try.func89, Try.ntmps89
    go_wp2
    go_ret2
    exact ⟨rfl, rfl⟩
set_option maxRecDepth 100000 in
set_option maxHeartbeats 1000000 in
theorem tbNew_any (w : World) {n : Nat} (h : 1 ≤ n ∧ n ≤ 65536) :
    Calls Try.prog 89 #[.int .i64 (n : Nat)] w fun e w' => ∃ T, e = .returned (.tuple #[.pointer (some ⟨T, 0, none⟩), .int .i64 0]) ∧ Below w.heap.size w w' ∧ ∃ M, TbAt w.heap.size w' T M (tb0 n) := by
  have hmm := @run_makeMap Try.prog
  have k1 : ¬ (n : Int) < 1 := by omega
  have k2 : ¬ (65536 : Int) < (n : Int) := by omega
  have HF : Hid (Below w.heap.size w ((w.alloc (.map #[] 0)).alloc (.cells #[.int .i64 (n : Nat), .map (some w.heap.size)] 101)) ∧
      TbAt w.heap.size ((w.alloc (.map #[] 0)).alloc (.cells #[.int .i64 (n : Nat), .map (some w.heap.size)] 101)) (w.heap.size + 1) w.heap.size (tb0 n)) := by
    obtain ⟨w3, hw3⟩ : ∃ w3, w3 = w.alloc (.map #[] 0) := ⟨_, rfl⟩
    have s3 : w3.heap.size = w.heap.size + 1 := by rw [hw3]; simp
    have b3 : Below w.heap.size w w3 := by rw [hw3]; exact (Below.refl _ _).alloc (Nat.le_refl _) _
    have h3 : MapIs Try.prog 103 w3 w.heap.size (fun _ => none) 0 := by
      have := MapIs.made (P := Try.prog) (k := 103) w
      rw [← hw3] at this
      exact this
    rw [← hw3]
    obtain ⟨w4, hw4⟩ : ∃ w4, w4 = w3.alloc (.cells #[.int .i64 (n : Nat), .map (some w.heap.size)] 101) := ⟨_, rfl⟩
    have b4 : Below w3.heap.size w3 w4 := by rw [hw4]; exact (Below.refl _ _).alloc (Nat.le_refl _) _
    have h4 : w4.heap[w3.heap.size]? = some (.cells #[.int .i64 (n : Nat), .map (some w.heap.size)] 101 (0, 0)) := by rw [hw4]; exact heap_alloc_new _ _
    rw [← hw4]
    rw [s3] at h4
    have b14 := below_upto b3 b4 (Nat.le_refl _)
    clear hw3 hw4
    refine ⟨b14, by rw [cell_of_row _ _ _ _ _ _ h4]; rfl, by rw [cell_of_row _ _ _ _ _ _ h4]; rfl, ⟨0, ?_⟩, ⟨by omega, by omega⟩, (fun k e h => by cases h), h.2⟩
    rw [entG_tb0, pF_none]
    exact h3.off (S := fun _ => False) (Off.of_below b4) id
  clear h
  go_enter Try.func89, Try.ntmps89
  go_wp2
  go_ret2
  exact ⟨_, rfl, HF.out.1, _, HF.out.2⟩
end Go.Proofs.Ytlmgihnnphmmhaa
namespace Go.Proofs.Ytlmgihnnphmmhaa
open Go.RowKit Go.Maps
set_option linter.unusedVariables false
set_option linter.unusedSimpArgs false

/-- A slice of booleans. -/
def SBo (w : World) (A : Option Addr) (n : Nat) (f : Nat → Bool) : Prop := 0 < n → ∃ b o, A = some ⟨b, o, none⟩ ∧ b < w.heap.size ∧ ∀ k, k < n → w.cell? ⟨b, o + k, none⟩ = some (.bool (f k))
theorem SBo.off {S : Nat → Prop} {w w' : World} {A : Option Addr} {n : Nat} {f : Nat → Bool} (h : SBo w A n f) (ho : Off S w w') (hs : ∀ k o, A = some ⟨k, o, none⟩ → ¬ S k) : SBo w' A n f := fun hp => by
  obtain ⟨b, o, rfl, hb, hc⟩ := h hp
  exact ⟨b, o, rfl, Nat.lt_of_lt_of_le hb ho.size, fun k hk => (ho.cell hb (hs b o rfl)).trans (hc k hk)⟩
theorem SBo.up {w w' : World} {A : Option Addr} {n : Nat} {f : Nat → Bool} (h : SBo w A n f) (hb : Below w.heap.size w w') : SBo w' A n f := h.off (S := fun _ => False) (Off.of_below hb) (fun _ _ _ => id)
/-- Of n segments those full that f names below j. -/
def tbF (n : Nat) (f : Nat → Bool) (j : Nat) : TbS := ⟨n, fun k => if k < j ∧ f k = true then some (2, 0) else none⟩
theorem tbF_zero (n : Nat) (f : Nat → Bool) : tbF n f 0 = tb0 n := by simp [tbF, tb0]
theorem tbF_skip (n : Nat) (f : Nat → Bool) (j : Nat) (h : f j = false) : tbF n f (j + 1) = tbF n f j := by
  unfold tbF
  congr 1
  funext k
  by_cases hk : k = j
  · subst hk; simp [h]
  · by_cases h1 : k < j
    · simp [h1, show k < j + 1 by omega]
    · simp [h1, show ¬ k < j + 1 by omega]
theorem tbF_take (n : Nat) (f : Nat → Bool) (j : Nat) (h : f j = true) : (tbF n f j).setE j (2, 0) = tbF n f (j + 1) := by
  unfold tbF TbS.setE
  congr 1
  funext k
  by_cases hk : k = j
  · subst hk; simp [h]
  · by_cases h1 : k < j
    · simp [hk, h1, show k < j + 1 by omega]
    · simp [hk, h1, show ¬ k < j + 1 by omega]
def LdPost (w : World) (n : Nat) (f : Nat → Bool) (e : Ending) (w' : World) : Prop := ∃ T, e = .returned (.tuple #[.pointer (some ⟨T, 0, none⟩), .int .i64 0]) ∧ Below w.heap.size w w' ∧ ∃ M, TbAt w.heap.size w' T M (tbF n f n)
set_option maxRecDepth 100000 in
set_option maxHeartbeats 2000000 in
theorem tbLoad_any (w : World) {A : Option Addr} {n c : Nat} {f : Nat → Bool} (hA : SBo w A n f) (h : 1 ≤ n ∧ n ≤ 65536) :
    Calls Try.prog 66 #[.slice A n c] w (LdPost w n f) := by
  obtain ⟨b, o, rfl, hb, hc⟩ := hA (by omega)
  have HC := Lib.hid hc
  have HN := Lib.hid h
  clear hA hc
  go_enter Try.func66, Try.ntmps66
  go_wp2_with fail
  refine (tbNew_any w h).mono ?_
  rintro _ w1 ⟨T, rfl, hb1, M, ht⟩
  have HB1 := Lib.hid hb1
  have HT := Lib.hid ht
  have l1 := ht.lo
  clear hb1 ht h
  go_wp2
  go_loopw [19] (fun i wr => ∃ j : Nat, j ≤ n ∧ i = .int .i64 j ∧ Off (· = M) w1 wr ∧ TbAt w.heap.size wr T M (tbF n f j)) (fun i _ => n - (intOf i).toNat)
  case atStart => exact ⟨0, Nat.zero_le _, rfl, Off.refl _ _, by rw [tbF_zero]; exact HT.out⟩
  case round =>
    obtain ⟨j, hj, rfl, ho, ht⟩ := hrel
    have HO := Lib.hid ho
    have HR := Lib.hid ht
    clear ho ht
    have hn := HN.out
    by_cases hjn : j < n
    · have i1 : (j : Int) < (n : Int) := by omega
      have rd : wr.cell? ⟨b, o + j, none⟩ = some (.bool (f j)) := by
        rw [HO.out.cell (Nat.lt_of_lt_of_le hb HB1.out.size) (by show ¬ b = M; omega), HB1.out.cell hb]
        exact HC.out j hjn
      by_cases hf : f j = true
      · obtain ⟨w2, hu, ht2, ho2⟩ := HR.out.put (k := j) (e := (2, 0)) hjn (by simp)
        rw [tbF_take n f j hf] at ht2
        rw [hf] at rd
        have c1 := HR.out.c1
        have H2 := Lib.hid ht2
        have HO2 := Lib.hid (HO.out.trans ho2)
        have hu' : (Instr.mapUpdate 99 (.map (some M)) (.agg #[.int .i64 (j : Nat)]) (.agg #[.int .i64 2, .int .i64 0, .int .i64 0])).run Try.prog wr = .ok () w2 := hu
        clear hu ht2 ho2 hf
        go_wp2
        go_round
        case rel => exact ⟨j + 1, by omega, by go_num, HO2.out, H2.out⟩
        case measure => simp [intOf]; omega
      · have hf' : f j = false := by simpa using hf
        have H2 := Lib.hid HR.out
        rw [← tbF_skip n f j hf'] at H2
        rw [hf'] at rd
        clear hf hf'
        go_wp2
        go_round
        case rel => exact ⟨j + 1, by omega, by go_num, HO.out, H2.out⟩
        case measure => simp [intOf]; omega
    · obtain rfl : j = n := by omega
      have i1 : ¬ (j : Int) < (j : Int) := by omega
      go_wp2
      go_ret2
      exact ⟨_, rfl, HB1.out.trans (HO.out.below (B := w.heap.size) (by intro k hk; omega) HB1.out.size), _, HR.out⟩
end Go.Proofs.Ytlmgihnnphmmhaa
