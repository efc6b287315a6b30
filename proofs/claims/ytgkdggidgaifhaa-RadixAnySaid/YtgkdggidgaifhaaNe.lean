/- radix: parse, plain; changes of a node's cells. -/
import Derived.Test.YtgkdggidgaifhaaNd
namespace Go.Proofs.Ytgkdggidgaifhaa
open Go.RowKit
set_option linter.unusedVariables false
set_option linter.unusedSimpArgs false

def upd {α : Type} (f : Nat → α) (i : Nat) (v : α) : Nat → α := fun j => if j = i then v else f j
theorem upd_same {α : Type} (f : Nat → α) (i : Nat) (v : α) : upd f i v i = v := by simp [upd]
theorem upd_other {α : Type} (f : Nat → α) (i : Nat) (v : α) {j : Nat} (h : j ≠ i) : upd f i v j = f j := by simp [upd, h]

section
variable (x : RN) (vv : Nat → Value) (vl : Value)
theorem nodeC_has {i : Nat} (b : Bool) (hi : i < 16) (k : Nat) : nodeC { x with has := upd x.has i b } vv vl k = if k = 50 + i then .bool b else nodeC x vv vl k := by
  unfold nodeC
  by_cases h : k = 50 + i
  · subst h
    simp [upd, show ¬ (50 + i = 1) by omega, show ¬ (50 + i < 34) by omega, show ¬ (50 + i < 50) by omega, show 50 + i < 66 by omega]
  · simp only [h, if_false]
    by_cases h2 : 50 ≤ k
    · simp only [upd, show ¬ k - 50 = i by omega, if_false]
    · simp only [show k < 50 by omega, if_true]
theorem nodeC_vals {i : Nat} (L : Bytes) (v : Value) (hi : i < 16) (k : Nat) : nodeC { x with vals := upd x.vals i L } (upd vv i v) vl k = if k = 34 + i then v else nodeC x vv vl k := by
  unfold nodeC
  by_cases h : k = 34 + i
  · subst h
    simp [upd, show ¬ (34 + i = 1) by omega, show ¬ (34 + i < 34) by omega, show 34 + i < 50 by omega]
  · simp only [h, if_false]
    by_cases h2 : 34 ≤ k
    · simp only [upd, show ¬ k - 34 = i by omega, if_false]
    · simp only [show k < 34 by omega, if_true]
theorem nodeC_kid1 {i : Nat} (a : Int) (hi : i < 16) (k : Nat) : nodeC { x with kids := upd x.kids i (a, (x.kids i).2) } vv vl k = if k = 2 + i * 2 then .int .i64 a else nodeC x vv vl k := by
  unfold nodeC
  by_cases h : k = 2 + i * 2
  · subst h
    simp [upd, show 2 + i * 2 < 34 by omega, show (2 + i * 2) % 2 = 0 by omega]
    omega
  · simp only [h, if_false]
    by_cases h2 : k < 34
    · simp only [h2, if_true]
      by_cases h3 : (k - 2) / 2 = i
      · by_cases h4 : k % 2 = 0
        · have : k = 0 := by omega
          simp [this]
        · simp [h4, upd, h3]
      · simp [upd, h3]
    · simp only [h2, if_false]
theorem nodeC_kid2 {i : Nat} (a : Int) (hi : i < 16) (k : Nat) : nodeC { x with kids := upd x.kids i ((x.kids i).1, a) } vv vl k = if k = 2 + i * 2 + 1 then .int .i64 a else nodeC x vv vl k := by
  unfold nodeC
  by_cases h : k = 2 + i * 2 + 1
  · subst h
    simp [upd, show 2 + i * 2 + 1 < 34 by omega, show ¬ (2 + i * 2 + 1) % 2 = 0 by omega]
    rw [if_pos (by omega)]
  · simp only [h, if_false]
    by_cases h2 : k < 34
    · simp only [h2, if_true]
      by_cases h3 : (k - 2) / 2 = i
      · by_cases h4 : k % 2 = 0
        · simp [h4, upd, h3]
        · have : k = 1 := by omega
          simp [this]
      · simp [upd, h3]
    · simp only [h2, if_false]
theorem nodeC_key (a : Nat) (k : Nat) : nodeC { x with key := a } vv vl k = if k = 66 then .int .i64 (a : Nat) else nodeC x vv vl k := by
  unfold nodeC
  by_cases h : k = 66
  · subst h; simp
  · simp only [h, if_false]
theorem nodeC_prefix (a : Nat) (k : Nat) : nodeC { x with prefix_ := a } vv vl k = if k = 1 then .int .i64 (a : Nat) else nodeC x vv vl k := by
  unfold nodeC
  by_cases h : k = 1
  · subst h; simp
  · simp only [h, if_false]
theorem nodeC_val (L : Bytes) (v : Value) {k : Nat} (hk : k < 68) : nodeC { x with val := L } vv v k = if k = 67 then v else nodeC x vv vl k := by
  unfold nodeC
  by_cases h : k = 67
  · subst h; simp
  · simp only [h, if_false]
    by_cases h2 : k < 66
    · simp only [h2, if_true]
    · have : k = 66 := by omega
      subst this; simp
end
/-- Where its values lie. -/
def ValsIn (Vb : Nat → Prop) (vv : Nat → Value) (vl : Value) : Prop := (∀ i b o n c, i < 16 → vv i = .slice (some ⟨b, o, none⟩) n c → Vb b) ∧ ∀ b o n c, vl = .slice (some ⟨b, o, none⟩) n c → Vb b
theorem NdAt.set {w : World} {X : Nat} {x x' : RN} {vv vv' : Nat → Value} {vl vl' : Value} {Vb : Nat → Prop} (h : NdAt w X x vv vl) (k0 : Nat) (v : Value) (hk : k0 < 68) (hc : ∀ k, k < 68 → nodeC x' vv' vl' k = if k = k0 then v else nodeC x vv vl k)
    (hv : ValsIn Vb vv' vl') (hX : ¬ Vb X) (h1 : ∀ i, i < 16 → SlB w (vv' i) (x'.vals i)) (h2 : SlB w vl' x'.val) : NdAt (w.setCell ⟨X, k0, none⟩ v) X x' vv' vl' ∧ Off (· = X) w (w.setCell ⟨X, k0, none⟩ v) := by
  have ho : Off (· = X) w (w.setCell ⟨X, k0, none⟩ v) := (Off.refl (· = X) w).setCell (p := ⟨X, k0, none⟩) rfl _
  refine ⟨⟨fun k hk => ?_, fun k => (World.frozen?_setCell _ _ _ _).trans (h.free k), fun i hi => (h1 i hi).off ho fun b o n c e e2 => hX (e2 ▸ hv.1 i b o n c hi e), h2.off ho fun b o n c e e2 => hX (e2 ▸ hv.2 b o n c e)⟩, ho⟩
  rw [hc k hk]
  split
  · rename_i e; subst e; exact World.cell?_setCell_same _ _ _ (h.row k hk)
  · rename_i e
    rw [World.cell?_setCell_other _ _ _ _ (by intro e2; injection e2 with _ e3; exact e e3.symm)]
    exact h.row k hk
section
variable {w : World} {X : Nat} {x : RN} {vv : Nat → Value} {vl : Value} {Vb : Nat → Prop} (h : NdAt w X x vv vl) (hv : ValsIn Vb vv vl) (hX : ¬ Vb X)
include h hv hX
theorem NdAt.setHas {i : Nat} (hi : i < 16) (b : Bool) : NdAt (w.setCell ⟨X, 50 + i, none⟩ (.bool b)) X { x with has := upd x.has i b } vv vl ∧ Off (· = X) w (w.setCell ⟨X, 50 + i, none⟩ (.bool b)) :=
  h.set _ _ (by omega) (fun k _ => nodeC_has x vv vl b hi k) hv hX h.vs h.v
theorem NdAt.setKid1 {i : Nat} (hi : i < 16) (a : Int) : NdAt (w.setCell ⟨X, 2 + i * 2, none⟩ (.int .i64 a)) X { x with kids := upd x.kids i (a, (x.kids i).2) } vv vl ∧ Off (· = X) w (w.setCell ⟨X, 2 + i * 2, none⟩ (.int .i64 a)) :=
  h.set _ _ (by omega) (fun k _ => nodeC_kid1 x vv vl a hi k) hv hX h.vs h.v
theorem NdAt.setKid2 {i : Nat} (hi : i < 16) (a : Int) : NdAt (w.setCell ⟨X, 2 + i * 2 + 1, none⟩ (.int .i64 a)) X { x with kids := upd x.kids i ((x.kids i).1, a) } vv vl ∧ Off (· = X) w (w.setCell ⟨X, 2 + i * 2 + 1, none⟩ (.int .i64 a)) :=
  h.set _ _ (by omega) (fun k _ => nodeC_kid2 x vv vl a hi k) hv hX h.vs h.v
theorem NdAt.setKey (a : Nat) : NdAt (w.setCell ⟨X, 66, none⟩ (.int .i64 (a : Nat))) X { x with key := a } vv vl ∧ Off (· = X) w (w.setCell ⟨X, 66, none⟩ (.int .i64 (a : Nat))) :=
  h.set _ _ (by omega) (fun k _ => nodeC_key x vv vl a k) hv hX h.vs h.v
theorem NdAt.setPrefix (a : Nat) : NdAt (w.setCell ⟨X, 1, none⟩ (.int .i64 (a : Nat))) X { x with prefix_ := a } vv vl ∧ Off (· = X) w (w.setCell ⟨X, 1, none⟩ (.int .i64 (a : Nat))) :=
  h.set _ _ (by omega) (fun k _ => nodeC_prefix x vv vl a k) hv hX h.vs h.v
theorem NdAt.setVals {i : Nat} (hi : i < 16) {v : Value} {L : Bytes} (hs : SlB w v L) (hb : ∀ b o n c, v = .slice (some ⟨b, o, none⟩) n c → Vb b) : NdAt (w.setCell ⟨X, 34 + i, none⟩ v) X { x with vals := upd x.vals i L } (upd vv i v) vl ∧ Off (· = X) w (w.setCell ⟨X, 34 + i, none⟩ v) ∧ ValsIn Vb (upd vv i v) vl := by
  have hv2 : ValsIn Vb (upd vv i v) vl := ⟨fun j b o n c hj e => by
    by_cases hji : j = i
    · subst hji; rw [upd_same] at e; exact hb b o n c e
    · rw [upd_other _ _ _ hji] at e; exact hv.1 j b o n c hj e, hv.2⟩
  obtain ⟨g1, g2⟩ := h.set (x' := { x with vals := upd x.vals i L }) (vv' := upd vv i v) (vl' := vl) (34 + i) v (by omega) (fun k _ => nodeC_vals x vv vl L v hi k) hv2 hX (fun j hj => by
    by_cases hji : j = i
    · subst hji; simp only [upd_same]; exact hs
    · simp only [upd_other _ _ _ hji]; exact h.vs j hj) h.v
  exact ⟨g1, g2, hv2⟩
theorem NdAt.setVal {v : Value} {L : Bytes} (hs : SlB w v L) (hb : ∀ b o n c, v = .slice (some ⟨b, o, none⟩) n c → Vb b) : NdAt (w.setCell ⟨X, 67, none⟩ v) X { x with val := L } vv v ∧ Off (· = X) w (w.setCell ⟨X, 67, none⟩ v) ∧ ValsIn Vb vv v := by
  have hv2 : ValsIn Vb vv v := ⟨hv.1, hb⟩
  obtain ⟨g1, g2⟩ := h.set (x' := { x with val := L }) (vv' := vv) (vl' := v) 67 v (by omega) (fun k hk => nodeC_val x vv vl L v hk) hv2 hX h.vs hs
  exact ⟨g1, g2, hv2⟩
end

/-! ### parse, plain -/
def rn0 (l : Nat) : RN := ⟨l, 0, fun _ => (0, 0), fun _ => [], fun _ => false, 0, []⟩
def pStep (mask : Nat) (st : RN × Cur) (i : Nat) : RN × Cur :=
  if mask / 2 ^ i % 2 = 1 ∧ st.2.2 = false then
    if st.1.level = 5 then ({ st.1 with has := upd st.1.has i true, vals := upd st.1.vals i (takeN (nextN st.2 256).2 (nextN st.2 256).1).1 }, (takeN (nextN st.2 256).2 (nextN st.2 256).1).2)
    else ({ st.1 with has := upd st.1.has i true, kids := upd st.1.kids i (((nextN st.2 2147483647).1 : Nat), ((nextN (nextN st.2 2147483647).2 2147483647).1 : Nat)) }, (nextN (nextN st.2 2147483647).2 2147483647).2)
  else ({ st.1 with has := upd st.1.has i (decide (mask / 2 ^ i % 2 = 1)) }, st.2)
def pLoop (mask : Nat) (st : RN × Cur) : Nat → RN × Cur
  | 0 => st
  | n + 1 => pStep mask (pLoop mask st n) n
def pHead (c : Nat) (r : Bytes) : Nat × Cur := nextN (r, false) (16 ^ c - 1)
def pMask (c : Nat) (r : Bytes) : Nat := if (takeN (pHead c r).2 2).1.length < 2 then 0 else le8 (takeN (pHead c r).2 2).1 2
def pNode (c : Nat) (r : Bytes) : RN × Cur := pLoop (pMask c r) ({ rn0 c with prefix_ := (pHead c r).1 }, (takeN (pHead c r).2 2).2) 16
def pLone (r : Bytes) : RN × Cur := ({ rn0 6 with key := (nextN (r, false) 16777215).1, val := (takeN (nextN (r, false) 16777215).2 (nextN (r, false) 16777215).2.1.length).1 }, (takeN (nextN (r, false) 16777215).2 (nextN (r, false) 16777215).2.1.length).2)
def parseB : Bytes → Option RN
  | [] => none
  | b :: r => if 6 < b.toNat then none else if b.toNat = 6 then
      (if (pLone r).2.2 = false ∧ (pLone r).1.val.length ≤ 256 then some (pLone r).1 else none)
    else if (pNode b.toNat r).2.2 = false ∧ (pNode b.toNat r).2.1 = [] ∧ pMask b.toNat r ≠ 0 then some (pNode b.toNat r).1 else none
theorem pStep_level (m : Nat) (st : RN × Cur) (i : Nat) : (pStep m st i).1.level = st.1.level ∧ (pStep m st i).1.prefix_ = st.1.prefix_ ∧ (pStep m st i).1.key = st.1.key ∧ (pStep m st i).1.val = st.1.val := by
  unfold pStep
  split
  · split <;> exact ⟨rfl, rfl, rfl, rfl⟩
  · exact ⟨rfl, rfl, rfl, rfl⟩
theorem pLoop_level (m : Nat) (st : RN × Cur) (n : Nat) : (pLoop m st n).1.level = st.1.level ∧ (pLoop m st n).1.prefix_ = st.1.prefix_ ∧ (pLoop m st n).1.key = st.1.key ∧ (pLoop m st n).1.val = st.1.val := by
  induction n with
  | zero => exact ⟨rfl, rfl, rfl, rfl⟩
  | succ n ih =>
    obtain ⟨a1, a2, a3, a4⟩ := pStep_level m (pLoop m st n) n
    obtain ⟨b1, b2, b3, b4⟩ := ih
    exact ⟨a1.trans b1, a2.trans b2, a3.trans b3, a4.trans b4⟩
theorem pStep_len (m : Nat) (st : RN × Cur) (i : Nat) : (pStep m st i).2.1.length ≤ st.2.1.length := by
  unfold pStep
  split
  · split
    · exact Nat.le_trans (takeN_len _ _) (nextN_len _ _)
    · exact Nat.le_trans (nextN_len _ _) (nextN_len _ _)
  · exact Nat.le_refl _
theorem nextN_int (s : Cur) : 0 ≤ (((nextN s 2147483647).1 : Nat) : Int) ∧ (((nextN s 2147483647).1 : Nat) : Int) ≤ 2147483647 := by
  have := nextN_le s 2147483647
  omega
structure KvOk (x : RN) : Prop where
  kd : ∀ i, i < 16 → 0 ≤ (x.kids i).1 ∧ (x.kids i).1 ≤ 2147483647 ∧ 0 ≤ (x.kids i).2 ∧ (x.kids i).2 ≤ 2147483647
  vs : ∀ i, i < 16 → (x.vals i).length ≤ 256
theorem pStep_kv {m : Nat} {st : RN × Cur} {i : Nat} (h : KvOk st.1) : KvOk (pStep m st i).1 := by
  unfold pStep
  split
  · split
    · refine ⟨h.kd, fun j hj => ?_⟩
      simp only [upd]
      split
      · exact Nat.le_trans (takeN_le _ _) (nextN_le _ _)
      · exact h.vs j hj
    · refine ⟨fun j hj => ?_, h.vs⟩
      simp only [upd]
      split
      · exact ⟨(nextN_int _).1, (nextN_int _).2, (nextN_int _).1, (nextN_int _).2⟩
      · exact h.kd j hj
  · exact ⟨h.kd, h.vs⟩
theorem pLoop_kv {m : Nat} {st : RN × Cur} {n : Nat} (h : KvOk st.1) : KvOk (pLoop m st n).1 := by
  induction n with
  | zero => exact h
  | succ n ih => exact pStep_kv ih
theorem rn0_kv (l : Nat) : KvOk (rn0 l) := ⟨fun i hi => by simp [rn0], fun i hi => by simp [rn0]⟩
theorem parseB_ok {L : Bytes} {x : RN} (h : parseB L = some x) : x.Ok := by
  cases L with
  | nil => cases h
  | cons b r =>
    simp only [parseB] at h
    split at h
    · cases h
    · rename_i h6
      split at h
      · split at h
        · rename_i h7
          cases h
          refine ⟨Nat.le_refl _, fun h => by simp [pLone, rn0] at h, fun _ => ?_, (rn0_kv 6).kd, (rn0_kv 6).vs, h7.2⟩
          have := nextN_le (r, false) 16777215
          show (nextN (r, false) 16777215).1 < 16777216
          omega
        · cases h
      · rename_i hn6
        split at h
        · cases h
          obtain ⟨a1, a2, a3, a4⟩ := pLoop_level (pMask b.toNat r) ({ rn0 b.toNat with prefix_ := (pHead b.toNat r).1 }, (takeN (pHead b.toNat r).2 2).2) 16
          have kv : KvOk (pNode b.toNat r).1 := pLoop_kv (n := 16) ⟨(rn0_kv b.toNat).kd, (rn0_kv b.toNat).vs⟩
          have e1 : (pNode b.toNat r).1.level = b.toNat := a1
          refine ⟨by rw [e1]; omega, fun _ => ?_, fun h => by rw [e1] at h; exact absurd h hn6, kv.kd, kv.vs, ?_⟩
          · have e2 : (pNode b.toNat r).1.prefix_ = (pHead b.toNat r).1 := a2
            rw [e1, e2]
            have h1 := nextN_le (r, false) (16 ^ b.toNat - 1)
            have h2 : 0 < 16 ^ b.toNat := Nat.pow_pos (by omega)
            show (nextN (r, false) (16 ^ b.toNat - 1)).1 < _
            omega
          · have e4 : (pNode b.toNat r).1.val = [] := a4
            rw [e4]; simp
        · cases h

/-! ### what lies there between two steps -/
structure PIn (B : Nat) (w0 w : World) (X C : Nat) (x : RN) (s : Cur) (vv : Nat → Value) (vl : Value) : Prop where
  nd : NdAt w X x vv vl
  vi : ValsIn (fun b => B ≤ b ∧ b ≠ X ∧ b ≠ C) vv vl
  cu : CurAt (· < B) w C s
  ne : X ≠ C
  hX : B ≤ X
  hC : B ≤ C
  bel : Below B w0 w
section
variable {B : Nat} {w0 w w' : World} {X C : Nat} {x x' : RN} {s s' : Cur} {vv vv' : Nat → Value} {vl vl' : Value}
theorem ValsIn.mono {V V' : Nat → Prop} (h : ValsIn V vv vl) (hm : ∀ b, V b → V' b) : ValsIn V' vv vl := ⟨fun i b o n c hi e => hm b (h.1 i b o n c hi e), fun b o n c e => hm b (h.2 b o n c e)⟩
theorem PIn.up (h : PIn B w0 w X C x s vv vl) (hb : Below w.heap.size w w') : PIn B w0 w' X C x s vv vl := ⟨h.nd.up hb, h.vi, h.cu.up hb, h.ne, h.hX, h.hC, h.bel.trans (hb.mono (by have := h.nd.lt; have := h.hX; omega))⟩
theorem PIn.drew (h : PIn B w0 w X C x s vv vl) : PIn B w0 w.drew X C x s vv vl := h.up (Below.refl _ _).drew
/-- The cursor has gone on. -/
theorem PIn.cur (h : PIn B w0 w X C x s vv vl) (hc : CurAt (· < B) w' C s') (ho : Off (· = C) w w') : PIn B w0 w' X C x s' vv vl :=
  ⟨h.nd.off ho h.ne (fun i b o n c hi e => (h.vi.1 i b o n c hi e).2.2) (fun b o n c e => (h.vi.2 b o n c e).2.2), h.vi, hc, h.ne, h.hX, h.hC, h.bel.trans (ho.below (fun k e => by rw [e]; exact h.hC) (by have := h.nd.lt; have := h.hX; omega))⟩
/-- The node has changed. -/
theorem PIn.node (h : PIn B w0 w X C x s vv vl) (hn : NdAt w' X x' vv' vl') (ho : Off (· = X) w w') (hv : ValsIn (fun b => B ≤ b ∧ b ≠ X ∧ b ≠ C) vv' vl') : PIn B w0 w' X C x' s vv' vl' :=
  ⟨hn, hv, h.cu.off ho (fun e => h.ne e.symm) (fun v b o n c e1 e2 e3 => by
    obtain ⟨v', g1, _, g3⟩ := h.cu.b
    rw [e1] at g1
    cases g1
    have h1 : b < B := g3 b o n c e2
    have h2 := h.hX
    omega), h.ne, h.hX, h.hC, h.bel.trans (ho.below (fun k e => by rw [e]; exact h.hX) (by have := h.nd.lt; have := h.hX; omega))⟩
end
end Go.Proofs.Ytgkdggidgaifhaa
