/- Rows of booleans; blobs.New at a list of another length. -/
import Derived.Test.YtlmgihnnphmmhaaSbZ
namespace Go.Proofs.Ytlmgihnnphmmhaa
open Go.RowKit
set_option linter.unusedVariables false
set_option linter.unusedSimpArgs false

/-- The list F of booleans at A. -/
def SBl (w : World) (A : Option Addr) (n : Nat) (F : List Bool) : Prop := F.length = n ∧ SBo w A n (fun k => F.getD k false)
theorem SBl.up {w w' : World} {A : Option Addr} {n : Nat} {F : List Bool} (h : SBl w A n F) (hb : Below w.heap.size w w') : SBl w' A n F := ⟨h.1, h.2.up hb⟩
theorem SBl.take {w : World} {A : Option Addr} {n m : Nat} {F : List Bool} (h : SBl w A n F) (hm : m ≤ n) : SBl w A m (F.take m) := by
  refine ⟨by rw [List.length_take, h.1]; omega, fun hp => ?_⟩
  obtain ⟨b, o, rfl, hb, hc⟩ := h.2 (by omega)
  refine ⟨b, o, rfl, hb, fun k hk => ?_⟩
  rw [hc k (by omega)]
  simp [List.getD_eq_getElem?_getD, List.getElem?_take, hk]
theorem run_appBo {B : Nat} {w : World} {v : Value} {F M : List Bool} {A : Option Addr} {m c : Nat} (hown : w.ownsRow B 4 1 v F.length (F.map Value.bool)) (hS : SBl w A m M) (hB : B ≤ w.heap.size) (hlen : F.length + m ≤ 1048576) (ty : TypeId) :
    ∃ v' w', (Builtin.append_ #[57, 57] ty #[v, .slice A m c]).run Try.prog w = .ok v' w' ∧ w'.ownsRow B 4 1 v' (F ++ M).length ((F ++ M).map Value.bool) ∧ w.grownBy w' v.ownBlock := by
  obtain ⟨i, hi, hz0, hz1, hz2⟩ := info_parts bool_info
  obtain ⟨hl, hc⟩ := hS
  rcases Nat.eq_zero_or_pos m with h0 | hp
  · subst h0
    have : M = [] := by simpa using hl
    subst this
    refine ⟨v, w, ?_, by simpa using hown, ⟨rfl, rfl, rfl, Nat.le_refl _, fun _ _ _ => rfl⟩⟩
    rcases hown.2 with ⟨rfl, h0⟩ | ⟨g, cap, cur, rfl, hb, hg, h1, h2, h3, h4⟩
    · cases A <;> simp [Builtin.append_, run_underlying Try.underlying57, sizeOf, typeInfo, hi, Builtin.lenOf, Builtin.firstCells, loadCells, loadCellsFrom]
    · cases A <;> simp [Builtin.append_, run_underlying Try.underlying57, sizeOf, typeInfo, hi, Builtin.lenOf, Builtin.firstCells, loadCells, loadCellsFrom, h1, storeCells]
  · obtain ⟨b, o, rfl, hb, hc⟩ := hc hp
    obtain ⟨v', w', hr, ho, hg, _, _⟩ := run_append_own_at (P := Try.prog) w B 57 ty 4 i (.bool false) 1 1 Try.underlying57 hi hz0 hz1 hz2 rfl (by omega) v F.length (F.map Value.bool) hown ⟨b, o, none⟩ m c (M.map Value.bool)
      (by simp [hl]) (fun j u hj => by
        have hj' : j < M.length := by
          rcases Nat.lt_or_ge j M.length with h | h
          · exact h
          · rw [List.getElem?_eq_none (by simpa using h)] at hj; cases hj
        rw [show (⟨b, o, none⟩ : Addr).add j = ⟨b, o + j, none⟩ by unfold Addr.add; split <;> simp_all, hc j (by omega)]
        simp [hj'] at hj
        rw [← hj]
        simp [List.getD_eq_getElem?_getD, hj']) (fun u hu => by
        obtain ⟨x, _, rfl⟩ := List.mem_map.1 hu
        simp [Value.oneCell']) (by unfold maxLen; omega) (by omega) hB
    refine ⟨v', w', hr, ?_, hg⟩
    rw [List.length_append, List.map_append, hl]
    exact ho
theorem OwBo.sbl {B : Nat} {w : World} {v : Value} {F : List Bool} (h : w.ownsRow B 4 1 v F.length (F.map Value.bool)) : ∃ A c, v = .slice A F.length c ∧ F.length ≤ c ∧ SBl w A F.length F := by
  rcases h.2 with ⟨rfl, h0⟩ | ⟨g, cap, cur, rfl, hb, hg, h1, h2, h3, h4⟩
  · have : F = [] := by simpa using h0
    subst this
    exact ⟨_, _, rfl, by simp, rfl, fun hp => absurd hp (by simp)⟩
  · have hl := (Array.getElem?_eq_some_iff.1 hg).1
    refine ⟨_, _, rfl, h1, rfl, fun hp => ⟨g, 0, rfl, hl, fun k hk => ?_⟩⟩
    have := World.ownsRow.cells h (g := g) rfl k (.bool (F[k])) (by simp [hk])
    rw [show (⟨g, 0, none⟩ : Addr).add k = ⟨g, 0 + k, none⟩ by unfold Addr.add; split <;> simp_all] at this
    rw [this]
    simp [List.getD_eq_getElem?_getD, hk]
theorem wpList_appBo {ops : Array Oper} {rest : List Oper} {o : Oper} {a : Act} {w : World} {Q : Exit → Act → World → Prop} (hgd : o.guard = none) (s x : Operand)
    (ho : o.op = .call { callee := .builtin .append, args := #[s, x], argTypes := #[57, 57] }) (B : Nat) (v : Value) (F M : List Bool) (hs : a.eval s = v) (hown : w.ownsRow B 4 1 v F.length (F.map Value.bool)) (A : Option Addr) (m c : Nat) (hx : a.eval x = .slice A m c)
    (hS : SBl w A m M) (hB : B ≤ w.heap.size) (hlen : F.length + m ≤ 1048576) (n' : Nat) (hn' : F.length + m = n')
    (h : ∀ A' c' w', w'.ownsRow B 4 1 (.slice A' n' c') (F ++ M).length ((F ++ M).map Value.bool) → n' ≤ c' → w.grownBy w' v.ownBlock → wpList Try.prog ops Q rest (a.put o.dst (.slice A' n' c')) w') : wpList Try.prog ops Q (o :: rest) a w := by
  obtain ⟨v', w', hr, h1, h2⟩ := run_appBo (c := c) hown hS hB hlen o.type
  obtain ⟨A', c', rfl, hc, _⟩ := OwBo.sbl h1
  have hl : (F ++ M).length = n' := by rw [List.length_append, hS.1, hn']
  have hr' : (Builtin.append_ #[57, 57] o.type #[v, .slice A m c]).run Try.prog w = .ok (.slice A' n' c') w' := by rw [hr, hl]
  have h1' : w'.ownsRow B 4 1 (.slice A' n' c') (F ++ M).length ((F ++ M).map Value.bool) := by rw [← hl]; exact h1
  refine wpList_plain hgd fun K hK => ?_
  unfold Oper.wp execOp
  simp only [ho, resolve, invoke, builtin, Sem.run_bind, Sem.run_pure, Result.andThen_ok, List.map_toArray, List.map_cons, List.map_nil, hs, hx, hr']
  exact hK _ _ (h A' c' w' h1' (by rw [← hl]; exact hc) h2)
set_option maxRecDepth 100000 in
set_option maxHeartbeats 2000000 in
theorem stNewBad_any {B D : Nat} (w : World) {c : Cfg} (h : c.Ok) {d : DkS} {O : Nat → Prop} (hd : DkAt B w D d O) (hS : d.S = c.sectors) (hz : d.z = c.z) {A : Option Addr} {n cp : Nat} (hn : n ≠ c.segs) :
    Calls Try.prog 27 #[c.val, .pointer (some ⟨D, 0, none⟩), .slice A n cp] w fun e w' => e = .returned (.tuple #[.pointer none, .int .i64 1]) ∧ Below w.heap.size w w' := by
  have HSH : Hid (∀ g : Up w, Calls Try.prog 64 #[c.val, .pointer (some ⟨D, 0, none⟩)] g.world fun e w'' => e = .returned (.bool true) ∧ Below g.world.heap.size g.world w'') := fun g => shaped_true g.world h (hd.up g.h) hS hz
  have HSG := Lib.hid (fun w' => segments_any w' h)
  have HMD := Lib.hid (BoxC.made w c)
  have HB : Hid (Below w.heap.size w (w.alloc (.cells c.cells 23))) := (Below.refl _ _).alloc (Nat.le_refl _) _
  have h1 : ¬ n = c.segs := hn
  have h2 : ¬ (n : Int) = (c.segs : Int) := by omega
  clear h hd hS hz hn
  unfold Cfg.val at HSH HSG ⊢
  unfold Cfg.cells at HMD HB
  go_enter Try.func27, Try.ntmps27
  go_upto_region 1 with (fail)
  refine wp_forget (fun W => ∃ g : Up w, W = g.world ∧ BoxC g.world w.heap.size c ∧ w.heap.size < g.world.heap.size) ⟨⟨_, HB.out⟩, rfl, HMD.out, by simp⟩ ?_
  clear HMD HB
  rintro _ ⟨g, rfl, ⟨q0, q1, q2, q3, q4, q5, q6, q7, q8⟩, lg⟩
  go_wp2_with fail
  refine (HSH.out g).mono ?_
  rintro _ w2 ⟨rfl, hb2⟩
  have hg2 : Below w.heap.size w w2 := below_upto g.h hb2 (Nat.le_refl _)
  have HG2 := Lib.hid hg2
  obtain ⟨p0, p1, p2, p3, p4, p5, p6, p7, p8⟩ : BoxC w2 w.heap.size c := (show BoxC g.world w.heap.size c from ⟨q0, q1, q2, q3, q4, q5, q6, q7, q8⟩).up fun j => hb2.cell (p := ⟨w.heap.size, j, none⟩) lg
  clear hb2 hg2 q0 q1 q2 q3 q4 q5 q6 q7 q8 HSH
  go_wp2_with fail
  refine (HSG.out w2).mono ?_
  rintro _ w3 ⟨rfl, hb3⟩
  have HF : Hid (Below w.heap.size w w3) := below_upto HG2.out hb3 (Nat.le_refl _)
  clear hb3
  go_wp2
  go_ret2
  exact ⟨rfl, HF.out⟩
end Go.Proofs.Ytlmgihnnphmmhaa
