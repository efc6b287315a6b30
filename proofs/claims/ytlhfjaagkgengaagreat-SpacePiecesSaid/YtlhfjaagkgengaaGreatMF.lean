/- slices.Clone, bytes.Equal (out of blobs/XCc). A pool of frames in memory; Find. The walk of frames.sweep. The plain law of the sweep. What becomes of a pool when memory is written. The walk of Pool.Take. The walk of Pool.Take when all frames are used. Take for every pool; New, used, Touch, Pin, Hand. New, and the law's own known. A pool of frames: Count, Clean, Drop, At (picked out of frames' texts by pick.py). The plain law of FramesTouched. The plain law of FramesPinned. The plain law of FramesKeys. A pool of frames: Victim (picked out of frames' texts by pick.py). -/
import Derived.Test.YtlhfjaagkgengaaGreatMA
import Derived.Test.YtlhfjaagkgengaaGreatLiftZ
import Derived.MapViews
import Derived.WalkMore
import Derived.Deep.AppendLies
import Derived.Deep.RegionHeld3
namespace Go.Proofs.YtlhfjaagkgengaaGreat
open Go.RowKit
set_option linter.unusedVariables false
set_option linter.unusedSimpArgs false

set_option maxRecDepth 100000 in
set_option maxHeartbeats 1000000 in
theorem clone_any (w : World) (A : Option Addr) (n c : Nat) (L : Bytes) (hL : SBy w A n L) (hn : n ≤ 2 ^ 40) :
    Calls Tryz.prog 81 #[.slice A n c] w fun e w' => ∃ A' c', e = .returned (.slice A' n c') ∧ FrB w w' (.slice A' n c') L ∧ (0 < n → ∃ b, A' = some ⟨b, 0, none⟩) := by
  have heq := fun (w : World) (a : Option Addr) (n c : Nat) => Lib.run_eql_slice_nil (P := Tryz.prog) w 24 5 a n c 0 0 Tryz.underlying24
  have HL := Lib.hid hL
  cases A with
  | none =>
    obtain rfl : n = 0 := by
      rcases Nat.eq_zero_or_pos n with h | h
      · exact h
      · obtain ⟨b, o, h, _⟩ := hL.2 h
        cases h
    have : L = [] := by simpa using hL.1
    subst this
    clear hL HL
    go_enter Tryz.func81, Tryz.ntmps81
    go_wp2
    go_ret
    exact ⟨_, _, rfl, FrB.empty w, fun h => by omega⟩
  | some a =>
    clear hL
    go_enter Tryz.func81, Tryz.ntmps81
    go_wp2_with (at_builtin; go_must (refine wpList_appF rfl (.tmp 5) (.tmp 6) rfl w (.slice (some ⟨w.heap.size, 0, none⟩) 0 0) [] L rfl (FrB.lit w) (some a) n c rfl (HL.out.alloc _) (by simp; omega) n (by simp) ?_); intro A' c' w1 h1 hg)
    have H1 := Lib.hid h1
    clear h1 hg
    go_wp2
    go_ret
    refine ⟨_, _, rfl, by simpa using H1.out, fun h => ?_⟩
    obtain ⟨g, cap, hv, _⟩ := World.ownsRow.form H1.out.own (by simpa [HL.out.1] using h)
    cases hv
    exact ⟨_, rfl⟩

set_option maxRecDepth 100000 in
theorem equal_any (w : World) (A B : Option Addr) (n c m d : Nat) (L M : Bytes) (hL : SBy w A n L) (hM : SBy w B m M) :
    Calls Tryz.prog 104 #[.slice A n c, .slice B m d] w fun e w' => e = .returned (.bool (decide (L = M))) ∧ w' = w := by
  have s1 := hL.str c
  have s2 := hM.str d
  go_enter Tryz.func104, Tryz.ntmps104
  go_wp2
  go_ret
  exact ⟨by rw [← strB_eq]; rfl, rfl⟩
end Go.Proofs.YtlhfjaagkgengaaGreat
namespace Go.Proofs.YtlhfjaagkgengaaGreat
open Go.RowKit Go.Maps
set_option linter.unusedVariables false
set_option linter.unusedSimpArgs false

structure Fr where
  key : Int
  used : Bool
  ref : Bool
  dirty : Bool
  pins : Int
def Fr.val (f : Fr) : Value := .agg #[.int .i64 f.key, .bool f.used, .bool f.ref, .bool f.dirty, .int .i64 f.pins]
def Fr.zero : Fr := ⟨0, false, false, false, 0⟩

/-- Frame i of the array that begins at the head of block B. -/
structure FrAt (w : World) (B i : Nat) (f : Fr) : Prop where
  c0 : w.cell? ⟨B, i * 5, none⟩ = some (.int .i64 f.key)
  c1 : w.cell? ⟨B, i * 5 + 1, none⟩ = some (.bool f.used)
  c2 : w.cell? ⟨B, i * 5 + 2, none⟩ = some (.bool f.ref)
  c3 : w.cell? ⟨B, i * 5 + 3, none⟩ = some (.bool f.dirty)
  c4 : w.cell? ⟨B, i * 5 + 4, none⟩ = some (.int .i64 f.pins)

def nameOf : Value → Option Int
  | .agg ⟨[.int .i64 k]⟩ => some k
  | _ => none
theorem nameOf_inv {v : Value} {k : Int} (h : nameOf v = some k) : v = .agg #[.int .i64 k] := by
  unfold nameOf at h
  split at h
  · cases h; rfl
  · cases h
/-- The map of the keys that are used, as a map of the model's values. -/
def keyF (g : Int → Option Nat) (v : Value) : Option Value := (nameOf v).bind fun k => (g k).map fun (i : Nat) => .int .i64 i
def upd (g : Int → Option Nat) (k : Int) (x : Option Nat) : Int → Option Nat := fun j => if j = k then x else g j

theorem keyF_at (g : Int → Option Nat) (k : Int) : keyF g (.agg #[.int .i64 k]) = (g k).map fun (i : Nat) => .int .i64 i := rfl
theorem keyF_put (g : Int → Option Nat) (k : Int) (i : Nat) : putK (keyF g) (.agg #[.int .i64 k]) (.int .i64 i) = keyF (upd g k (some i)) := by
  funext v
  unfold putK
  split
  · rename_i h; subst h; simp [keyF, nameOf, upd]
  · rename_i h
    unfold keyF
    cases hn : nameOf v with
    | none => rfl
    | some j =>
      have : j ≠ k := fun e => h (by rw [nameOf_inv hn, e])
      simp [upd, this]
theorem keyF_del (g : Int → Option Nat) (k : Int) : delK (keyF g) (.agg #[.int .i64 k]) = keyF (upd g k none) := by
  funext v
  unfold delK
  split
  · rename_i h; subst h; simp [keyF, nameOf, upd]
  · rename_i h
    unfold keyF
    cases hn : nameOf v with
    | none => rfl
    | some j =>
      have : j ≠ k := fun e => h (by rw [nameOf_inv hn, e])
      simp [upd, this]

theorem nameWide : (match Tryz.prog.underlying 242 with | some (.array _ _) | some (.struct _) => true | _ => false) = true := by kernel_rfl
set_option maxRecDepth 100000 in
theorem nameKeyed : Keyed Tryz.prog 242 := Keyed.of_law (deep_law_laid laidOut (m := 2) (by omega) (of_decide_eq_true (by kernel_rfl)) (by kernel_rfl) nameWide)
theorem cellsName : Tryz.prog.cellsOf 242 = 1 := by kernel_rfl
theorem cellsInt : Tryz.prog.cellsOf 3 = 1 := by kernel_rfl
theorem zeroInt (w : World) : (zeroValue 3).run Tryz.prog w = .ok (.int .i64 0) w := by kernel_rfl
set_option maxRecDepth 100000 in
theorem name_key {k : Int} (hk : (Lit.int .i64 k).wf = true) : ∃ l, keyOf Tryz.prog 242 (.agg #[.int .i64 k]) = some l := by
  have hf : (Value.agg #[.int .i64 k]).formed Tryz.prog 242 = true := by
    simp [Value.formed, Tryz.underlying242]
    kernel_rfl
  have hd : DataW.Trod (H := Unit) (fun _ => ()) Tryz.prog default 0 (fun _ => true) true 242 (.agg #[.int .i64 k]) (.agg [.lit (.int .i64 k)]) [] :=
    ⟨2, by simp [DataW.trod, Value.cells, Tryz.underlying242, Tryz.underlying3, hk, cellsName, cellsInt]⟩
  exact ⟨_, (keyOf_asKey (by kernel_rfl) nameWide hf hd).1⟩

structure PoolAt (w : World) (P B M n : Nat) (F : Nat → Fr) (h : Nat) (g : Int → Option Nat) (c : Nat) : Prop where
  l0 : w.cell? ⟨P, 0, none⟩ = some (.slice (some ⟨B, 0, none⟩) n n)
  l1 : w.cell? ⟨P, 1, none⟩ = some (.map (some M))
  l2 : w.cell? ⟨P, 2, none⟩ = some (.int .i64 h)
  lz : ∀ i, w.frozen? ⟨P, i, none⟩ = false
  fr : ∀ i, i < n → FrAt w B i (F i)
  fz : ∀ j, w.frozen? ⟨B, j, none⟩ = false
  mp : MapIs Tryz.prog 242 w M (keyF g) c
  ne : P ≠ B
  pos : 0 < n
  most : n ≤ 4096
  hand : h < n
  kw : ∀ i, i < n → (Lit.int .i64 (F i).key).wf = true

def findI (g : Int → Option Nat) (key : Int) : Int := match g key with | some i => i | none => 0

theorem PoolAt.look {w : World} {P B M n : Nat} {F : Nat → Fr} {h : Nat} {g : Int → Option Nat} {c : Nat} (p : PoolAt w P B M n F h g c) {key : Int} (hk : (Lit.int .i64 key).wf = true) :
    (Instr.lookup 218 (.map (some M)) (.agg #[.int .i64 key]) true).run Tryz.prog w = .ok (.tuple #[.int .i64 (findI g key), .bool (g key).isSome]) w := by
  obtain ⟨l, hl⟩ := name_key hk
  rw [p.mp.look nameKeyed Tryz.underlying218 (zeroInt w) hl true, keyF_at]
  cases hg : g key <;> simp [findI, hg]

def findV (g : Int → Option Nat) (key : Int) : Value := .tuple #[.int .i64 (findI g key), .bool (g key).isSome]

set_option maxHeartbeats 400000 in
theorem Find_any {w : World} {P B M n : Nat} {F : Nat → Fr} {h : Nat} {g : Int → Option Nat} {c : Nat} (p : PoolAt w P B M n F h g c) {key : Int} (hk : (Lit.int .i64 key).wf = true) :
    Calls Tryz.prog 107 #[.pointer (some ⟨P, 0, none⟩), .int .i64 key] w fun e w' => e = .returned (findV g key) ∧ w = w' := by
  have hl := p.look hk
  have l1 := p.l1
  go_enter Tryz.func107, Tryz.ntmps107
  go_wp2
  go_ret2
  exact ⟨rfl, rfl⟩

set_option maxHeartbeats 400000 in
theorem notUsed_any (f : Fr) (w : World) :
    Calls Tryz.prog 160 #[.agg #[.int .i64 f.key, .bool f.used, .bool f.ref, .bool f.dirty, .int .i64 f.pins]] w fun e w' => e = .returned (.bool (!f.used)) ∧ Below w.heap.size w w' := by
  go_enter Tryz.func160, Tryz.ntmps160
  go_wp2
  all_goals
    go_ret
    exact ⟨rfl, by go_grown⟩
set_option maxHeartbeats 400000 in
theorem noPins_any (f : Fr) (w : World) :
    Calls Tryz.prog 162 #[.agg #[.int .i64 f.key, .bool f.used, .bool f.ref, .bool f.dirty, .int .i64 f.pins]] w fun e w' => e = .returned (.bool (f.pins == 0)) ∧ Below w.heap.size w w' := by
  go_enter Tryz.func162, Tryz.ntmps162
  go_wp2
  all_goals
    go_ret
    exact ⟨rfl, by go_grown⟩

/-- The first of the n frames, from k on, at which q holds; -1: none. -/
def firstFrom (q : Nat → Bool) (n : Nat) : Nat → Nat → Int
  | 0, _ => -1
  | d + 1, k => if k < n then (if q k then (k : Int) else firstFrom q n d (k + 1)) else -1
def first (q : Nat → Bool) (n : Nat) : Int := firstFrom q n n 0
theorem firstFrom_spec (q : Nat → Bool) (n : Nat) : ∀ d k, n ≤ d + k → (firstFrom q n d k = -1 ∧ ∀ i, k ≤ i → i < n → q i = false) ∨ (∃ j : Nat, firstFrom q n d k = j ∧ k ≤ j ∧ j < n ∧ q j = true ∧ ∀ i, k ≤ i → i < j → q i = false)
  | 0, k, h => .inl ⟨rfl, fun i h1 h2 => by omega⟩
  | d + 1, k, h => by
    unfold firstFrom
    by_cases hk : k < n
    · rw [if_pos hk]
      cases hq : q k
      · simp only [Bool.false_eq_true, if_false]
        rcases firstFrom_spec q n d (k + 1) (by omega) with ⟨h1, h2⟩ | ⟨j, h1, h2, h3, h4, h5⟩
        · refine .inl ⟨h1, fun i hi hn => ?_⟩
          rcases Nat.lt_or_ge k i with hl | hl
          · exact h2 i (by omega) hn
          · have : i = k := by omega
            subst this; exact hq
        · refine .inr ⟨j, h1, by omega, h3, h4, fun i hi hj => ?_⟩
          rcases Nat.lt_or_ge k i with hl | hl
          · exact h5 i (by omega) hj
          · have : i = k := by omega
            subst this; exact hq
      · simp only [if_true]
        exact .inr ⟨k, rfl, Nat.le_refl _, hk, hq, fun i h1 h2 => by omega⟩
    · rw [if_neg hk]
      exact .inl ⟨rfl, fun i h1 h2 => by omega⟩
theorem first_spec (q : Nat → Bool) (n : Nat) : (first q n = -1 ∧ ∀ i, i < n → q i = false) ∨ (∃ j : Nat, first q n = j ∧ j < n ∧ q j = true ∧ ∀ i, i < j → q i = false) := by
  rcases firstFrom_spec q n n 0 (by omega) with ⟨h1, h2⟩ | ⟨j, h1, _, h3, h4, h5⟩
  · exact .inl ⟨h1, fun i hi => h2 i (by omega) hi⟩
  · exact .inr ⟨j, h1, h3, h4, fun i hi => h5 i (by omega) hi⟩
theorem first_is {q : Nat → Bool} {n j : Nat} (hj : j < n) (hq : q j = true) (hb : ∀ i, i < j → q i = false) : first q n = j := by
  rcases first_spec q n with ⟨h1, h2⟩ | ⟨j', h1, h2, h3, h4⟩
  · rw [h2 j hj] at hq; cases hq
  · rcases Nat.lt_trichotomy j j' with h | h | h
    · rw [h4 j h] at hq; cases hq
    · rw [h1, h]
    · rw [hb j' h] at h3; cases h3
theorem first_none {q : Nat → Bool} {n : Nat} (h : ∀ i, i < n → q i = false) : first q n = -1 := by
  rcases first_spec q n with ⟨h1, h2⟩ | ⟨j', h1, h2, h3, h4⟩
  · exact h1
  · rw [h j' h2] at h3; cases h3

/-- The n frames from the head of block B on. -/
def FrS (w : World) (B n : Nat) (F : Nat → Fr) : Prop := ∀ i, i < n → FrAt w B i (F i)
theorem FrAt.up {w w' : World} {B i : Nat} {f : Fr} (h : FrAt w B i f) (hb : Below w.heap.size w w') : FrAt w' B i f :=
  have hl := lt_of_cell h.c0
  ⟨(hb.cell hl).trans h.c0, (hb.cell hl).trans h.c1, (hb.cell hl).trans h.c2, (hb.cell hl).trans h.c3, (hb.cell hl).trans h.c4⟩

set_option maxHeartbeats 1000000 in
theorem IndexFunc_any (fn : Nat) (q : Fr → Bool) (hcf : ∀ (v : Value) (w : World), (callFunc fn #[v]).run Tryz.prog w = .ok (.enter fn #[v]) w) (hf : ∀ (f : Fr) (w : World), Calls Tryz.prog fn #[.agg #[.int .i64 f.key, .bool f.used, .bool f.ref, .bool f.dirty, .int .i64 f.pins]] w fun e w' => e = .returned (.bool (q f)) ∧ Below w.heap.size w w')
    (w : World) (B n : Nat) (F : Nat → Fr) (hn : n ≤ 4096) (hF : FrS w B n F) :
    Calls Tryz.prog 159 #[.slice (some ⟨B, 0, none⟩) n n, .func (.func fn) #[] #[]] w fun e w' => e = .returned (.int .i64 (first (fun i => q (F i)) n)) ∧ Below w.heap.size w w' := by
  have HH := Lib.hid hf
  have HF := Lib.hid hF
  clear hf hF
  go_enter Tryz.func159, Tryz.ntmps159
  go_wp2
  go_loopw [8] (fun i wr => ∃ k : Nat, k ≤ n ∧ i = .int .i64 k ∧ (∀ j, j < k → q (F j) = false) ∧ Below w.heap.size w wr) (fun i _ => n - (intOf i).toNat)
  case atStart => exact ⟨0, Nat.zero_le _, rfl, fun j h => by omega, Below.refl _ _⟩
  case round =>
    obtain ⟨k, hk, rfl, hno, hb⟩ := hrel
    by_cases hlt : k < n
    · obtain ⟨c0, c1, c2, c3, c4⟩ := (show FrAt wr B k (F k) from by
        have h := HF.out k hlt
        have hl := lt_of_cell h.c0
        exact ⟨(hb.cell hl).trans h.c0, (hb.cell hl).trans h.c1, (hb.cell hl).trans h.c2, (hb.cell hl).trans h.c3, (hb.cell hl).trans h.c4⟩)
      have HN := Lib.hid hno
      have HB := Lib.hid hb
      clear hno hb
      go_wp2_with fail
      refine (HH.out (F k) _).mono ?_
      rintro e w1 ⟨rfl, hb1⟩
      have HB1 := Lib.hid (below_upto HB.out hb1 (Nat.le_refl _))
      clear hb1
      cases hq : q (F k)
      · go_wp2
        go_roundw
        case rel =>
          refine ⟨k + 1, by omega, by go_num, fun j hj => ?_, HB1.out⟩
          rcases Nat.lt_or_ge j k with h | h
          · exact HN.out j h
          · have : j = k := by omega
            subst this; exact hq
        case measure => simp [intOf]; omega
      · go_wp2
        go_ret
        exact ⟨by rw [first_is (q := fun i => q (F i)) hlt hq HN.out]; rfl, HB1.out⟩
    · go_wp2
      go_ret
      exact ⟨by rw [first_none (q := fun i => q (F i)) (fun i hi => hno i (by omega))]; rfl, hb⟩

theorem cf1 (v : Value) (w : World) : (callFunc 160 #[v]).run Tryz.prog w = .ok (.enter 160 #[v]) w := by kernel_rfl
theorem cf2 (v : Value) (w : World) : (callFunc 162 #[v]).run Tryz.prog w = .ok (.enter 162 #[v]) w := by kernel_rfl

set_option maxHeartbeats 1000000 in
theorem ContainsFunc_any (fn : Nat) (q : Fr → Bool) (hcf : ∀ (v : Value) (w : World), (callFunc fn #[v]).run Tryz.prog w = .ok (.enter fn #[v]) w) (hf : ∀ (f : Fr) (w : World), Calls Tryz.prog fn #[.agg #[.int .i64 f.key, .bool f.used, .bool f.ref, .bool f.dirty, .int .i64 f.pins]] w fun e w' => e = .returned (.bool (q f)) ∧ Below w.heap.size w w')
    (w : World) (B n : Nat) (F : Nat → Fr) (hn : n ≤ 4096) (hF : FrS w B n F) :
    Calls Tryz.prog 161 #[.slice (some ⟨B, 0, none⟩) n n, .func (.func fn) #[] #[]] w fun e w' => e = .returned (.bool (decide (0 ≤ first (fun i => q (F i)) n))) ∧ Below w.heap.size w w' := by
  have HC := Lib.hid (IndexFunc_any fn q hcf hf w B n F hn hF)
  clear hcf hf hF
  go_enter Tryz.func161, Tryz.ntmps161
  go_wp2_with fail
  refine HC.out.mono ?_
  rintro e w1 ⟨rfl, hb1⟩
  go_wp2
  all_goals
    go_ret
    exact ⟨rfl, hb1⟩
end Go.Proofs.YtlhfjaagkgengaaGreat
namespace Go.Proofs.YtlhfjaagkgengaaGreat
open Go.RowKit Go.Maps
set_option linter.unusedVariables false
set_option linter.unusedSimpArgs false

def clr (F : Nat → Fr) (k : Nat) : Nat → Fr := fun i => if i = k then { F i with ref := false } else F i

/-- The hand goes on for at most d frames: which one it gives up, and how it leaves the frames. -/
def sw (n : Nat) : Nat → Nat → (Nat → Fr) → Int × (Nat → Fr)
  | 0, _, F => (-1, F)
  | d + 1, k, F => if !(F k).used || decide (0 < (F k).pins) then sw n d ((k + 1) % n) F else if (F k).ref then sw n d ((k + 1) % n) (clr F k) else ((k : Int), F)

theorem FrS.clr {w : World} {B n k : Nat} {F : Nat → Fr} (h : FrS w B n F) (hk : k < n) : FrS (w.setCell ⟨B, k * 5 + 2, none⟩ (.bool false)) B n (clr F k) := by
  intro i hi
  have hi5 := h i hi
  have hne : ∀ r, r < 5 → (i = k → r ≠ 2) → (⟨B, k * 5 + 2, none⟩ : Addr) ≠ ⟨B, i * 5 + r, none⟩ := by
    intro r hr h1 he
    injection he with _ he
    by_cases hik : i = k
    · subst hik; exact h1 rfl (by omega)
    · omega
  unfold Go.Proofs.YtlhfjaagkgengaaGreat.clr
  by_cases hik : i = k
  · subst hik
    rw [if_pos rfl]
    exact ⟨(World.cell?_setCell_other _ _ _ _ (hne 0 (by omega) (by omega))).trans hi5.c0, (World.cell?_setCell_other _ _ _ _ (hne 1 (by omega) (by omega))).trans hi5.c1, World.cell?_setCell_same _ _ _ hi5.c2, (World.cell?_setCell_other _ _ _ _ (hne 3 (by omega) (by omega))).trans hi5.c3, (World.cell?_setCell_other _ _ _ _ (hne 4 (by omega) (by omega))).trans hi5.c4⟩
  · rw [if_neg hik]
    exact ⟨(World.cell?_setCell_other _ _ _ _ (hne 0 (by omega) (by omega))).trans hi5.c0, (World.cell?_setCell_other _ _ _ _ (hne 1 (by omega) (by omega))).trans hi5.c1, (World.cell?_setCell_other _ _ _ _ (hne 2 (by omega) (fun e => absurd e hik))).trans hi5.c2, (World.cell?_setCell_other _ _ _ _ (hne 3 (by omega) (by omega))).trans hi5.c3, (World.cell?_setCell_other _ _ _ _ (hne 4 (by omega) (by omega))).trans hi5.c4⟩

theorem sw_skip {n d k : Nat} {F : Nat → Fr} (h : (!(F k).used || decide (0 < (F k).pins)) = true) : sw n (d + 1) k F = sw n d ((k + 1) % n) F := by rw [sw, if_pos h]
theorem sw_clr {n d k : Nat} {F : Nat → Fr} (h : (!(F k).used || decide (0 < (F k).pins)) = false) (h2 : (F k).ref = true) : sw n (d + 1) k F = sw n d ((k + 1) % n) (clr F k) := by rw [sw, if_neg (by rw [h]; exact Bool.false_ne_true), if_pos h2]
theorem sw_found {n d k : Nat} {F : Nat → Fr} (h : (!(F k).used || decide (0 < (F k).pins)) = false) (h2 : (F k).ref = false) : sw n (d + 1) k F = ((k : Int), F) := by rw [sw, if_neg (by rw [h]; exact Bool.false_ne_true), if_neg (by rw [h2]; exact Bool.false_ne_true)]

structure SwAt (w : World) (B n h : Nat) (F : Nat → Fr) (k r : Nat) (F' : Nat → Fr) (wr : World) : Prop where
  le : k ≤ 2 * n + 1
  lt : r < n
  run : sw n (2 * n + 1 - k) r F' = sw n (2 * n + 1) h F
  fr : FrS wr B n F'
  fz : ∀ j, wr.frozen? ⟨B, j, none⟩ = false
  off : Off (· = B) w wr

def SwPost (n : Nat) (h : Nat) (F : Nat → Fr) (B : Nat) (w : World) (e : Ending) (w' : World) : Prop := e = .returned (.int .i64 (sw n (2 * n + 1) h F).1) ∧ FrS w' B n (sw n (2 * n + 1) h F).2 ∧ (∀ j, w'.frozen? ⟨B, j, none⟩ = false) ∧ Off (· = B) w w'

set_option maxHeartbeats 1000000 in
theorem sweep_any {K : Nat} (w : World) (B n h : Nat) (F : Nat → Fr) (hn : n ≤ 4096) (hp : 0 < n) (hh : h < n) (hF : FrS w B n F) (hz : ∀ j, w.frozen? ⟨B, j, none⟩ = false) :
    Calls Tryz.prog 138 #[.slice (some ⟨B, 0, none⟩) n K, .int .i64 h] w (SwPost n h F B w) := by
  have H0 : Hid (SwAt w B n h F 0 h F w) := ⟨by omega, hh, rfl, hF, hz, Off.refl _ _⟩
  clear hF hz
  go_enter Tryz.func138, Tryz.ntmps138
  go_wp2
  go_step3
  go_wp2
  go_step3
  go_wp2
  go_loopw [5, 13] (fun a i wr => ∃ (k r : Nat) (F' : Nat → Fr), i = .int .i64 k ∧ a = .int .i64 r ∧ SwAt w B n h F k r F' wr) (fun _ i _ => 2 * n + 1 - (intOf i).toNat)
  case atStart => exact ⟨0, h, F, rfl, rfl, H0.out⟩
  case round =>
    obtain ⟨k, r, F', rfl, rfl, hs⟩ := hrel
    have hk := hs.le
    have hr := hs.lt
    have HS := Lib.hid hs
    clear H0 hs
    by_cases hlt : k < 2 * n + 1
    · obtain ⟨c0, c1, c2, c3, c4⟩ := HS.out.fr r hr
      have z2 := HS.out.fz (r * 5 + 2)
      have hm : ((r : Int) + 1) % (n : Int) = (((r + 1) % n : Nat) : Int) := by rw [Int.natCast_emod]; simp
      have hml : (r + 1) % n < n := Nat.mod_lt _ hp
      have HM := Lib.hid hm
      clear hm
      have hd : 2 * n + 1 - k = (2 * n + 1 - (k + 1)) + 1 := by omega
      have HD := Lib.hid hd
      clear hd
      cases hu : (F' r).used
      · have HK : Hid (sw n (2 * n + 1 - (k + 1)) ((r + 1) % n) F' = sw n (2 * n + 1) h F) := by
          have := HS.out.run
          rw [HD.out, sw_skip (by simp [hu])] at this
          exact this
        go_wp2
        go_roundw
        case rel => exact ⟨k + 1, (r + 1) % n, F', by go_num, by rw [HM.out], ⟨by omega, hml, HK.out, HS.out.fr, HS.out.fz, HS.out.off⟩⟩
        case measure => simp [intOf]; omega
      · by_cases hpin : 0 < (F' r).pins
        · have HK : Hid (sw n (2 * n + 1 - (k + 1)) ((r + 1) % n) F' = sw n (2 * n + 1) h F) := by
            have := HS.out.run
            rw [HD.out, sw_skip (by simp [hu, hpin])] at this
            exact this
          go_wp2
          go_roundw
          case rel => exact ⟨k + 1, (r + 1) % n, F', by go_num, by rw [HM.out], ⟨by omega, hml, HK.out, HS.out.fr, HS.out.fz, HS.out.off⟩⟩
          case measure => simp [intOf]; omega
        · cases hrf : (F' r).ref
          · have HK : Hid (sw n (2 * n + 1) h F = ((r : Int), F')) := by
              have := HS.out.run
              rw [HD.out, sw_found (by simp [hu]; omega) hrf] at this
              exact this.symm
            go_wp2
            try rw [Exit.noGoto_ret]
            go_ret
            exact ⟨by rw [HK.out]; rfl, by rw [HK.out]; exact HS.out.fr, HS.out.fz, HS.out.off⟩
          · have HK : Hid (sw n (2 * n + 1 - (k + 1)) ((r + 1) % n) (clr F' r) = sw n (2 * n + 1) h F) := by
              have := HS.out.run
              rw [HD.out, sw_clr (by simp [hu]; omega) hrf] at this
              exact this
            go_wp2
            go_roundw
            case rel => exact ⟨k + 1, (r + 1) % n, clr F' r, by go_num, by rw [HM.out], ⟨by omega, hml, HK.out, HS.out.fr.clr hr, fun j => by rw [World.frozen?_setCell]; exact HS.out.fz j, HS.out.off.setCell rfl _⟩⟩
            case measure => simp [intOf]; omega
    · have HK : Hid (sw n (2 * n + 1) h F = (-1, F')) := by
        have := HS.out.run
        rw [show 2 * n + 1 - k = 0 by omega] at this
        exact this.symm
      go_wp2
      try rw [Exit.noGoto_ret]
      go_ret
      exact ⟨by rw [HK.out]; rfl, by rw [HK.out]; exact HS.out.fr, HS.out.fz, HS.out.off⟩
end Go.Proofs.YtlhfjaagkgengaaGreat
namespace Go.Proofs.YtlhfjaagkgengaaGreat
open Go.RowKit Go.Maps
set_option linter.unusedVariables false
set_option linter.unusedSimpArgs false

def Fr.cand (f : Fr) : Bool := f.used && !decide (0 < f.pins)
theorem cand_not (f : Fr) : (!f.used || decide (0 < f.pins)) = !f.cand := by unfold Fr.cand; cases f.used <;> simp

theorem clr_at (F : Nat → Fr) (k : Nat) : (clr F k k).ref = false := by simp [clr]
theorem clr_cand (F : Nat → Fr) (k i : Nat) : (clr F k i).cand = (F i).cand := by unfold clr Fr.cand; split <;> rfl
theorem clr_ne (F : Nat → Fr) {k i : Nat} (h : i ≠ k) : clr F k i = F i := by unfold clr; rw [if_neg h]

/-- Frames that differ in Ref alone, which may have been cleared. -/
def Cleared (F F' : Nat → Fr) : Prop := ∀ i, (F' i).key = (F i).key ∧ (F' i).used = (F i).used ∧ (F' i).dirty = (F i).dirty ∧ (F' i).pins = (F i).pins ∧ ((F' i).ref = true → (F i).ref = true)
theorem Cleared.refl (F : Nat → Fr) : Cleared F F := fun i => ⟨rfl, rfl, rfl, rfl, id⟩
theorem Cleared.clr {F F' : Nat → Fr} (k : Nat) (h : Cleared (Go.Proofs.YtlhfjaagkgengaaGreat.clr F k) F') : Cleared F F' := by
  intro i
  have := h i
  unfold Go.Proofs.YtlhfjaagkgengaaGreat.clr at this
  split at this
  · exact ⟨this.1, this.2.1, this.2.2.1, this.2.2.2.1, fun x => by simpa using this.2.2.2.2 x⟩
  · exact this
theorem Cleared.cand {F F' : Nat → Fr} (h : Cleared F F') (i : Nat) : (F' i).cand = (F i).cand := by unfold Fr.cand; rw [(h i).2.1, (h i).2.2.2.1]

theorem sw_form (n : Nat) (hn : 0 < n) : ∀ d k F, k < n → Cleared F (sw n d k F).2 ∧ ((sw n d k F).1 = -1 ∨ ∃ r : Nat, (sw n d k F).1 = r ∧ r < n ∧ ((sw n d k F).2 r).cand = true ∧ ((sw n d k F).2 r).ref = false)
  | 0, k, F, hk => ⟨Cleared.refl F, .inl rfl⟩
  | d + 1, k, F, hk => by
    unfold sw
    rw [cand_not]
    cases hc : (F k).cand
    · simp only [Bool.not_false, if_true]
      exact sw_form n hn d _ F (Nat.mod_lt _ hn)
    · simp only [Bool.not_true, Bool.false_eq_true, if_false]
      cases hr : (F k).ref
      · simp only [Bool.false_eq_true, if_false]
        exact ⟨Cleared.refl F, .inr ⟨k, rfl, hk, hc, hr⟩⟩
      · simp only [if_true]
        obtain ⟨h1, h2⟩ := sw_form n hn d _ (clr F k) (Nat.mod_lt (k + 1) hn)
        exact ⟨Cleared.clr k h1, h2⟩

theorem sw_none (n : Nat) (hn : 0 < n) : ∀ d k F, k < n → (sw n d k F).1 = -1 → ∀ s, s < d → (F ((k + s) % n)).cand = true → (F ((k + s) % n)).ref = true ∧ ∀ s', s < s' → s' < d → (k + s') % n ≠ (k + s) % n
  | 0, k, F, hk, h, s, hs, _ => by omega
  | d + 1, k, F, hk, h, s, hs, hcs => by
    have hmod : ∀ s1, ((k + 1) % n + s1) % n = (k + (s1 + 1)) % n := fun s1 => by rw [Nat.mod_add_mod]; congr 1; omega
    have hk0 : (k + 0) % n = k := by rw [Nat.add_zero]; exact Nat.mod_eq_of_lt hk
    unfold sw at h
    rw [cand_not] at h
    cases hc : (F k).cand
    · rw [hc] at h
      simp only [Bool.not_false, if_true] at h
      have ih := sw_none n hn d _ F (Nat.mod_lt (k + 1) hn) h
      cases s with
      | zero => rw [hk0, hc] at hcs; cases hcs
      | succ s1 =>
        have := ih s1 (by omega) (by rw [hmod]; exact hcs)
        rw [hmod] at this
        refine ⟨this.1, fun s' h1 h2 => ?_⟩
        cases s' with
        | zero => omega
        | succ s2 => have h3 := this.2 s2 (by omega) (by omega); rwa [hmod] at h3
    · rw [hc] at h
      simp only [Bool.not_true, Bool.false_eq_true, if_false] at h
      cases hr : (F k).ref
      · rw [hr] at h
        simp only [Bool.false_eq_true, if_false] at h
        omega
      · rw [hr] at h
        simp only [if_true] at h
        have ih := sw_none n hn d _ (clr F k) (Nat.mod_lt (k + 1) hn) h
        have never : ∀ s1, s1 < d → (k + (s1 + 1)) % n ≠ k := by
          intro s1 h1 he
          have h2 := (ih s1 h1 (by rw [hmod, he, clr_cand]; exact hc)).1
          rw [hmod, he, clr_at] at h2
          cases h2
        cases s with
        | zero =>
          rw [hk0]
          refine ⟨hr, fun s' h1 h2 => ?_⟩
          cases s' with
          | zero => omega
          | succ s2 => exact never s2 (by omega)
        | succ s1 =>
          have hne := never s1 (by omega)
          have := ih s1 (by omega) (by rw [hmod, clr_ne F hne]; exact hcs)
          rw [hmod, clr_ne F hne] at this
          refine ⟨this.1, fun s' h1 h2 => ?_⟩
          cases s' with
          | zero => omega
          | succ s2 => have h3 := this.2 s2 (by omega) (by omega); rwa [hmod] at h3

theorem sw_some {n h i : Nat} {F : Nat → Fr} (hh : h < n) (hi : i < n) (hc : (F i).cand = true) : ∃ r : Nat, (sw n (2 * n + 1) h F).1 = r ∧ r < n ∧ ((sw n (2 * n + 1) h F).2 r).cand = true ∧ ((sw n (2 * n + 1) h F).2 r).ref = false := by
  have hn : 0 < n := by omega
  rcases (sw_form n hn (2 * n + 1) h F hh).2 with h1 | h1
  · exfalso
    have e : ∃ s, s < n ∧ (h + s) % n = i := by
      rcases Nat.lt_or_ge i h with hl | hl
      · refine ⟨i + n - h, by omega, ?_⟩
        rw [show h + (i + n - h) = i + n by omega, Nat.add_mod_right, Nat.mod_eq_of_lt hi]
      · refine ⟨i - h, by omega, ?_⟩
        rw [show h + (i - h) = i by omega, Nat.mod_eq_of_lt hi]
    obtain ⟨s, hs, he⟩ := e
    have := (sw_none n hn (2 * n + 1) h F hh h1 s (by omega) (by rw [he]; exact hc)).2 (s + n) (by omega) (by omega)
    apply this
    rw [← Nat.add_assoc, Nat.add_mod_right]
  · exact h1
end Go.Proofs.YtlhfjaagkgengaaGreat
namespace Go.Proofs.YtlhfjaagkgengaaGreat
open Go.RowKit Go.Maps
set_option linter.unusedVariables false
set_option linter.unusedSimpArgs false

/-- The blocks of a pool. -/
def PB (P B M : Nat) : Nat → Prop := fun k => k = P ∨ k = B ∨ k = M
def putF (F : Nat → Fr) (k : Nat) (f : Fr) : Nat → Fr := fun i => if i = k then f else F i

section
variable {w w' : World} {P B M n : Nat} {F F' : Nat → Fr} {h : Nat} {g : Int → Option Nat} {c : Nat}

theorem PoolAt.ltP (p : PoolAt w P B M n F h g c) : P < w.heap.size := lt_of_cell p.l0
theorem PoolAt.ltB (p : PoolAt w P B M n F h g c) : B < w.heap.size := lt_of_cell (p.fr 0 p.pos).c0
theorem PoolAt.ltM (p : PoolAt w P B M n F h g c) : M < w.heap.size := p.mp.lt
theorem PoolAt.neM (p : PoolAt w P B M n F h g c) : P ≠ M ∧ B ≠ M := by
  refine ⟨fun e => ?_, fun e => ?_⟩
  · have h1 := p.l0
    rw [e, p.mp.no_cell] at h1
    cases h1
  · have h1 := (p.fr 0 p.pos).c0
    rw [e, p.mp.no_cell] at h1
    cases h1

/-- Other blocks have changed alone. -/
theorem PoolAt.off {S : Nat → Prop} (p : PoolAt w P B M n F h g c) (ho : Off S w w') (h1 : ¬ S P) (h2 : ¬ S B) (h3 : ¬ S M) : PoolAt w' P B M n F h g c where
  l0 := (ho.cell p.ltP h1).trans p.l0
  l1 := (ho.cell p.ltP h1).trans p.l1
  l2 := (ho.cell p.ltP h1).trans p.l2
  lz := fun i => (ho.frozen p.ltP h1).trans (p.lz i)
  fr := fun i hi => ⟨(ho.cell p.ltB h2).trans (p.fr i hi).c0, (ho.cell p.ltB h2).trans (p.fr i hi).c1, (ho.cell p.ltB h2).trans (p.fr i hi).c2, (ho.cell p.ltB h2).trans (p.fr i hi).c3, (ho.cell p.ltB h2).trans (p.fr i hi).c4⟩
  fz := fun j => (ho.frozen p.ltB h2).trans (p.fz j)
  mp := p.mp.off ho h3
  ne := p.ne
  pos := p.pos
  most := p.most
  hand := p.hand
  kw := p.kw
theorem PoolAt.up (p : PoolAt w P B M n F h g c) (hb : Below w.heap.size w w') : PoolAt w' P B M n F h g c := p.off (S := fun _ => False) (Off.of_below hb) id id id
theorem PoolAt.drewN (p : PoolAt w P B M n F h g c) (k : Nat) : PoolAt (w.drewN k) P B M n F h g c := p.up (below_drewN (Below.refl _ _) k)
theorem PoolAt.drew (p : PoolAt w P B M n F h g c) : PoolAt w.drew P B M n F h g c := p.up (Below.refl _ _).drew
/-- The frames have changed alone. -/
theorem PoolAt.frames (p : PoolAt w P B M n F h g c) (hf : FrS w' B n F') (hz : ∀ j, w'.frozen? ⟨B, j, none⟩ = false) (ho : Off (· = B) w w') (hk : ∀ i, i < n → (Lit.int .i64 (F' i).key).wf = true) : PoolAt w' P B M n F' h g c where
  l0 := (ho.cell p.ltP p.ne).trans p.l0
  l1 := (ho.cell p.ltP p.ne).trans p.l1
  l2 := (ho.cell p.ltP p.ne).trans p.l2
  lz := fun i => (ho.frozen p.ltP p.ne).trans (p.lz i)
  fr := hf
  fz := hz
  mp := p.mp.off ho (fun e => p.neM.2 e.symm)
  ne := p.ne
  pos := p.pos
  most := p.most
  hand := p.hand
  kw := hk
/-- The map has changed alone. -/
theorem PoolAt.mapped {g' : Int → Option Nat} {c' : Nat} (p : PoolAt w P B M n F h g c) (hm : MapIs Tryz.prog 242 w' M (keyF g') c') (ho : Off (· = M) w w') : PoolAt w' P B M n F h g' c' where
  l0 := (ho.cell p.ltP p.neM.1).trans p.l0
  l1 := (ho.cell p.ltP p.neM.1).trans p.l1
  l2 := (ho.cell p.ltP p.neM.1).trans p.l2
  lz := fun i => (ho.frozen p.ltP p.neM.1).trans (p.lz i)
  fr := fun i hi => ⟨(ho.cell p.ltB p.neM.2).trans (p.fr i hi).c0, (ho.cell p.ltB p.neM.2).trans (p.fr i hi).c1, (ho.cell p.ltB p.neM.2).trans (p.fr i hi).c2, (ho.cell p.ltB p.neM.2).trans (p.fr i hi).c3, (ho.cell p.ltB p.neM.2).trans (p.fr i hi).c4⟩
  fz := fun j => (ho.frozen p.ltB p.neM.2).trans (p.fz j)
  mp := hm
  ne := p.ne
  pos := p.pos
  most := p.most
  hand := p.hand
  kw := p.kw
/-- The hand has moved. -/
theorem PoolAt.moved {h' : Nat} (p : PoolAt w P B M n F h g c) (hh : h' < n) : PoolAt (w.setCell ⟨P, 2, none⟩ (.int .i64 h')) P B M n F h' g c where
  l0 := (World.cell?_setCell_other _ _ _ _ (by simp)).trans p.l0
  l1 := (World.cell?_setCell_other _ _ _ _ (by simp)).trans p.l1
  l2 := World.cell?_setCell_same _ _ _ p.l2
  lz := fun i => by rw [World.frozen?_setCell]; exact p.lz i
  fr := fun i hi => by
    have hne : ∀ o, (⟨P, 2, none⟩ : Addr) ≠ ⟨B, o, none⟩ := fun o e => p.ne (by injection e)
    exact ⟨(World.cell?_setCell_other _ _ _ _ (hne _)).trans (p.fr i hi).c0, (World.cell?_setCell_other _ _ _ _ (hne _)).trans (p.fr i hi).c1, (World.cell?_setCell_other _ _ _ _ (hne _)).trans (p.fr i hi).c2, (World.cell?_setCell_other _ _ _ _ (hne _)).trans (p.fr i hi).c3, (World.cell?_setCell_other _ _ _ _ (hne _)).trans (p.fr i hi).c4⟩
  fz := fun j => by rw [World.frozen?_setCell]; exact p.fz j
  mp := p.mp.off (S := (· = P)) ((Off.refl (· = P) w).setCell (p := ⟨P, 2, none⟩) rfl _) (fun e => p.neM.1 e.symm)
  ne := p.ne
  pos := p.pos
  most := p.most
  hand := hh
  kw := p.kw
end

/-- A frame is written whole, cell by cell. -/
theorem FrS.put {w : World} {B n k : Nat} {F : Nat → Fr} {f : Fr} (h : FrS w B n F) (hk : k < n) :
    FrS (((((w.setCell ⟨B, k * 5, none⟩ (.int .i64 f.key)).setCell ⟨B, k * 5 + 1, none⟩ (.bool f.used)).setCell ⟨B, k * 5 + 2, none⟩ (.bool f.ref)).setCell ⟨B, k * 5 + 3, none⟩ (.bool f.dirty)).setCell ⟨B, k * 5 + 4, none⟩ (.int .i64 f.pins)) B n (putF F k f) := by
  intro i hi
  have hi5 := h i hi
  have hne : ∀ (r s : Nat), k * 5 + r ≠ s → (⟨B, k * 5 + r, none⟩ : Addr) ≠ ⟨B, s, none⟩ := by
    intro r s h1 he
    injection he with _ he
    exact h1 he
  have o : ∀ (W : World) (r s : Nat) (v : Value), k * 5 + r ≠ s → (W.setCell ⟨B, k * 5 + r, none⟩ v).cell? ⟨B, s, none⟩ = W.cell? ⟨B, s, none⟩ := fun W r s v h1 => World.cell?_setCell_other _ _ _ _ (hne r s h1)
  have o0 : ∀ (W : World) (s : Nat) (v : Value), k * 5 ≠ s → (W.setCell ⟨B, k * 5, none⟩ v).cell? ⟨B, s, none⟩ = W.cell? ⟨B, s, none⟩ := fun W s v h1 => o W 0 s v h1
  unfold putF
  by_cases hik : i = k
  · subst hik
    rw [if_pos rfl]
    refine ⟨?_, ?_, ?_, ?_, ?_⟩
    · rw [o _ 4 _ _ (by omega), o _ 3 _ _ (by omega), o _ 2 _ _ (by omega), o _ 1 _ _ (by omega)]
      exact World.cell?_setCell_same _ _ _ hi5.c0
    · rw [o _ 4 _ _ (by omega), o _ 3 _ _ (by omega), o _ 2 _ _ (by omega)]
      exact World.cell?_setCell_same _ _ _ ((o0 _ _ _ (by omega)).trans hi5.c1)
    · rw [o _ 4 _ _ (by omega), o _ 3 _ _ (by omega)]
      exact World.cell?_setCell_same _ _ _ ((o _ 1 _ _ (by omega)).trans ((o0 _ _ _ (by omega)).trans hi5.c2))
    · rw [o _ 4 _ _ (by omega)]
      exact World.cell?_setCell_same _ _ _ ((o _ 2 _ _ (by omega)).trans ((o _ 1 _ _ (by omega)).trans ((o0 _ _ _ (by omega)).trans hi5.c3)))
    · exact World.cell?_setCell_same _ _ _ ((o _ 3 _ _ (by omega)).trans ((o _ 2 _ _ (by omega)).trans ((o _ 1 _ _ (by omega)).trans ((o0 _ _ _ (by omega)).trans hi5.c4))))
  · rw [if_neg hik]
    have all : ∀ s, i * 5 ≤ s → s < i * 5 + 5 → (((((w.setCell ⟨B, k * 5, none⟩ (.int .i64 f.key)).setCell ⟨B, k * 5 + 1, none⟩ (.bool f.used)).setCell ⟨B, k * 5 + 2, none⟩ (.bool f.ref)).setCell ⟨B, k * 5 + 3, none⟩ (.bool f.dirty)).setCell ⟨B, k * 5 + 4, none⟩ (.int .i64 f.pins)).cell? ⟨B, s, none⟩ = w.cell? ⟨B, s, none⟩ := by
      intro s h1 h2
      rw [o _ 4 _ _ (by omega), o _ 3 _ _ (by omega), o _ 2 _ _ (by omega), o _ 1 _ _ (by omega), o0 _ _ _ (by omega)]
    exact ⟨(all _ (by omega) (by omega)).trans hi5.c0, (all _ (by omega) (by omega)).trans hi5.c1, (all _ (by omega) (by omega)).trans hi5.c2, (all _ (by omega) (by omega)).trans hi5.c3, (all _ (by omega) (by omega)).trans hi5.c4⟩

theorem PoolAt.put {w : World} {P B M n : Nat} {F : Nat → Fr} {h : Nat} {g : Int → Option Nat} {c k : Nat} {f : Fr} (p : PoolAt w P B M n F h g c) (hk : k < n) (hw : (Lit.int .i64 f.key).wf = true) :
    PoolAt (((((w.setCell ⟨B, k * 5, none⟩ (.int .i64 f.key)).setCell ⟨B, k * 5 + 1, none⟩ (.bool f.used)).setCell ⟨B, k * 5 + 2, none⟩ (.bool f.ref)).setCell ⟨B, k * 5 + 3, none⟩ (.bool f.dirty)).setCell ⟨B, k * 5 + 4, none⟩ (.int .i64 f.pins)) P B M n (putF F k f) h g c := by
  refine p.frames (FrS.put p.fr hk) (fun j => by simp only [World.frozen?_setCell]; exact p.fz j) ?_ (fun i hi => ?_)
  · exact (((((Off.refl (· = B) w).setCell (p := ⟨B, k * 5, none⟩) rfl _).setCell (p := ⟨B, k * 5 + 1, none⟩) rfl _).setCell (p := ⟨B, k * 5 + 2, none⟩) rfl _).setCell (p := ⟨B, k * 5 + 3, none⟩) rfl _).setCell (p := ⟨B, k * 5 + 4, none⟩) rfl _
  · unfold putF
    split
    · exact hw
    · exact p.kw i hi
end Go.Proofs.YtlhfjaagkgengaaGreat
namespace Go.Proofs.YtlhfjaagkgengaaGreat
open Go.RowKit Go.Maps
set_option linter.unusedVariables false
set_option linter.unusedSimpArgs false

/-- A frame that a key uses newly. -/
def Fr.new (key : Int) : Fr := ⟨key, true, true, false, 0⟩
structure TakeR where
  frame : Int
  out : Fr
  given : Bool
  e : Int
  F : Nat → Fr
  h : Nat
  g : Int → Option Nat
def TakeR.val (r : TakeR) : Value := .tuple #[.int .i64 r.frame, r.out.val, .bool r.given, .int .i64 r.e]
def freeAt (F : Nat → Fr) (n : Nat) : Int := first (fun i => !(F i).used) n
def loose (F : Nat → Fr) (n : Nat) : Bool := decide (0 ≤ first (fun i => (F i).pins == 0) n)
/-- What Take answers, and how it leaves the pool. -/
def takeR (n : Nat) (F : Nat → Fr) (h : Nat) (g : Int → Option Nat) (key : Int) : TakeR :=
  if (g key).isSome then ⟨0, Fr.zero, false, 3, F, h, g⟩
  else if 0 ≤ freeAt F n then ⟨freeAt F n, Fr.zero, false, 0, putF F (freeAt F n).toNat (Fr.new key), h, upd g key (some (freeAt F n).toNat)⟩
  else if loose F n then
    let r := (sw n (2 * n + 1) h F).1.toNat
    let F' := (sw n (2 * n + 1) h F).2
    ⟨r, F' r, true, 0, putF F' r (Fr.new key), (r + 1) % n, upd (upd g (F' r).key none) key (some r)⟩
  else ⟨0, Fr.zero, false, 10, F, h, g⟩

def TakePost (P B M n : Nat) (r : TakeR) (w : World) (e : Ending) (w' : World) : Prop :=
  e = .returned r.val ∧ (∃ c', PoolAt w' P B M n r.F r.h r.g c') ∧ Off (PB P B M) w w'

/-- The cell of a result that is a frame. -/
def ROut (w : World) (R : Nat) (f : Fr) : Prop := w.heap[R]? = some (.cells #[.int .i64 f.key, .bool f.used, .bool f.ref, .bool f.dirty, .int .i64 f.pins] 214 (0, 0))
theorem ROut.frozen {w : World} {R : Nat} {f : Fr} (h : ROut w R f) (i : Nat) : w.frozen? ⟨R, i, none⟩ = false := by
  unfold ROut at h
  simp [World.frozen?, h]
theorem ROut.lt {w : World} {R : Nat} {f : Fr} (h : ROut w R f) : R < w.heap.size := (Array.getElem?_eq_some_iff.1 h).1
theorem ROut.cells {w : World} {R : Nat} {f : Fr} (h : ROut w R f) : w.cell? ⟨R, 0, none⟩ = some (.int .i64 f.key) ∧ w.cell? ⟨R, 1, none⟩ = some (.bool f.used) ∧ w.cell? ⟨R, 2, none⟩ = some (.bool f.ref) ∧ w.cell? ⟨R, 3, none⟩ = some (.bool f.dirty) ∧ w.cell? ⟨R, 4, none⟩ = some (.int .i64 f.pins) := by
  simp only [cell_of_row _ _ _ _ _ _ h]
  exact ⟨rfl, rfl, rfl, rfl, rfl⟩

theorem off_out (w : World) (R : Nat) (v0 v1 v2 v3 v4 : Value) : Off (· = R) w (((((w.setCell ⟨R, 0, none⟩ v0).setCell ⟨R, 1, none⟩ v1).setCell ⟨R, 2, none⟩ v2).setCell ⟨R, 3, none⟩ v3).setCell ⟨R, 4, none⟩ v4) :=
  (((((Off.refl (· = R) w).setCell (p := ⟨R, 0, none⟩) rfl v0).setCell (p := ⟨R, 1, none⟩) rfl v1).setCell (p := ⟨R, 2, none⟩) rfl v2).setCell (p := ⟨R, 3, none⟩) rfl v3).setCell (p := ⟨R, 4, none⟩) rfl v4
theorem take_done {w w3 W : World} {P B M n c R : Nat} {r : TakeR} {e : Ending} (p : PoolAt w3 P B M n r.F r.h r.g c) (o : Off (PB P B M) w w3) (h1 : R ≠ P) (h2 : R ≠ B) (h3 : R ≠ M) (hR : w.heap.size ≤ R) (he : e = .returned r.val) (ho : Off (· = R) w3 W) : TakePost P B M n r w e W :=
  ⟨he, ⟨c, p.off ho (fun e => h1 e.symm) (fun e => h2 e.symm) (fun e => h3 e.symm)⟩, o.late ho (fun i hi e => by omega)⟩

section
variable {w : World} {P B M n : Nat} {F : Nat → Fr} {h : Nat} {g : Int → Option Nat} {c : Nat} {key : Int}

set_option maxHeartbeats 1000000 in
theorem Take_used (p : PoolAt w P B M n F h g c) (hk : (Lit.int .i64 key).wf = true) (hg : (g key).isSome = true) :
    Calls Tryz.prog 124 #[.pointer (some ⟨P, 0, none⟩), .int .i64 key] w (TakePost P B M n (takeR n F h g key) w) := by
  have HP := Lib.hid p
  have HR : Hid (takeR n F h g key = ⟨0, Fr.zero, false, 3, F, h, g⟩) := by unfold takeR; rw [if_pos hg]; rfl
  have p0 : PoolAt (w.alloc (.cells #[.int .i64 0, .bool false, .bool false, .bool false, .int .i64 0] 214)) P B M n F h g c := p.up ((Below.refl _ _).alloc (Nat.le_refl _) _)
  have HF := Lib.hid (Find_any p0 hk)
  clear p p0
  go_enter Tryz.func124, Tryz.ntmps124
  go_wp2_with fail
  refine HF.out.mono ?_
  rintro e w1 ⟨rfl, rfl⟩
  unfold findV
  rw [hg]
  go_wp2
  refine bodyPost_ret (v := .tuple #[.int .i64 0, .agg #[.int .i64 0, .bool false, .bool false, .bool false, .int .i64 0], .bool false, .int .i64 3]) (by simp [results, Tryz.results124, go_sem]) rfl ?_
  rw [HR.out]
  refine ⟨rfl, ⟨c, ?_⟩, ?_⟩
  · exact HP.out.up (by go_grown)
  · exact Off.of_below (by go_grown)

set_option maxHeartbeats 1000000 in
theorem Take_free {j : Nat} (p : PoolAt w P B M n F h g c) (hk : (Lit.int .i64 key).wf = true) (hg : (g key).isSome = false) (hj : freeAt F n = j) (hjn : j < n) :
    Calls Tryz.prog 124 #[.pointer (some ⟨P, 0, none⟩), .int .i64 key] w (TakePost P B M n (takeR n F h g key) w) := by
  have HP := Lib.hid p
  have HR : Hid (takeR n F h g key = ⟨j, Fr.zero, false, 0, putF F j (Fr.new key), h, upd g key (some j)⟩) := by unfold takeR; rw [if_neg (by rw [hg]; exact Bool.false_ne_true), hj, if_pos (by omega)]; rfl
  have p0 : PoolAt (w.alloc (.cells #[.int .i64 0, .bool false, .bool false, .bool false, .int .i64 0] 214)) P B M n F h g c := p.up ((Below.refl _ _).alloc (Nat.le_refl _) _)
  have HF := Lib.hid (Find_any p0 hk)
  have HI := Lib.hid (IndexFunc_any 160 (fun f => !f.used) cf1 (fun f w => notUsed_any f w) _ B n F p.most p0.fr)
  have HJ := Lib.hid hj
  have hn := p.most
  have l0 := p0.l0
  have ltw := p.ltP
  have ltb := p.ltB
  have HP0 := Lib.hid p0
  clear p p0 hj
  go_enter Tryz.func124, Tryz.ntmps124
  go_wp2_with fail
  refine HF.out.mono ?_
  rintro e w1 ⟨rfl, rfl⟩
  unfold findV
  rw [hg]
  go_wp2_with fail
  refine HI.out.mono ?_
  rintro e w1 ⟨rfl, hb1⟩
  rw [show first (fun i => !(F i).used) n = (j : Int) from HJ.out]
  have p1 := HP0.out.up hb1
  have r1 : ROut w1 w.heap.size Fr.zero := (hb1.block _ (by simp)).trans (heap_alloc_new w _)
  have o1 : Off (PB P B M) w w1 := (Off.of_below ((Below.refl _ _).alloc (Nat.le_refl _) _)).step hb1
  obtain ⟨c0, c1, c2, c3, c4⟩ := p1.fr j hjn
  have z0 := p1.fz (j * 5)
  have z1 := p1.fz (j * 5 + 1)
  have z2 := p1.fz (j * 5 + 2)
  have z3 := p1.fz (j * 5 + 3)
  have z4 := p1.fz (j * 5 + 4)
  have l0' := p1.l0
  have HX : Hid (∀ W, W = (((((w1.setCell ⟨B, j * 5, none⟩ (.int .i64 key)).setCell ⟨B, j * 5 + 1, none⟩ (.bool true)).setCell ⟨B, j * 5 + 2, none⟩ (.bool true)).setCell ⟨B, j * 5 + 3, none⟩ (.bool false)).setCell ⟨B, j * 5 + 4, none⟩ (.int .i64 0)) → PoolAt W P B M n (putF F j (Fr.new key)) h g c ∧ ROut W w.heap.size Fr.zero ∧ Off (PB P B M) w W) := by
    rintro W rfl
    have hB : ∀ o, PB P B M (⟨B, o, none⟩ : Addr).block := fun o => .inr (.inl rfl)
    have hR : w.heap.size ≠ B := by omega
    refine ⟨p1.put (f := Fr.new key) hjn hk, ?_, ((((o1.setCell (hB _) _).setCell (hB _) _).setCell (hB _) _).setCell (hB _) _).setCell (hB _) _⟩
    unfold ROut
    rw [Below.heap_setCell _ _ _ _ hR, Below.heap_setCell _ _ _ _ hR, Below.heap_setCell _ _ _ _ hR, Below.heap_setCell _ _ _ _ hR, Below.heap_setCell _ _ _ _ hR]
    exact r1
  clear p1 r1 o1 hb1 l0
  go_upto_region 13 with (fail)
  refine wp_forget (fun W => PoolAt W P B M n (putF F j (Fr.new key)) h g c ∧ ROut W w.heap.size Fr.zero ∧ Off (PB P B M) w W) (HX.out _ rfl) ?_
  clear HX c0 c1 c2 c3 c4 z0 z1 z2 z3 z4 l0' w1
  rintro w2 ⟨p2, r2, o2⟩
  obtain ⟨l, hl⟩ := name_key hk
  obtain ⟨w3, hrun, hm, ho⟩ := p2.mp.put (val := .int .i64 j) nameKeyed Tryz.underlying218 hl
  rw [keyF_put] at hm
  have l1 := p2.l1
  have HQ : Hid (PoolAt w3 P B M n (putF F j (Fr.new key)) h (upd g key (some j)) _ ∧ ROut w3 w.heap.size Fr.zero ∧ Off (PB P B M) w w3) :=
    ⟨p2.mapped hm ho, (ho.block _ (by have := o2.size; have := (Array.getElem?_eq_some_iff.1 r2).1; omega) (by have := HP0.out.ltM; intro e; have := HP.out.ltM; omega)).trans r2, o2.trans (ho.mono fun k e => .inr (.inr e))⟩
  clear p2 r2 o2 hm ho hl
  go_wp2
  obtain ⟨p3, r3, o3⟩ := HQ.out
  obtain ⟨d0, d1, d2, d3, d4⟩ := r3.cells
  have y0 := r3.frozen 0
  have y1 := r3.frozen 1
  have y2 := r3.frozen 2
  have y3 := r3.frozen 3
  have y4 := r3.frozen 4
  have HP3 := Lib.hid p3
  have HO3 := Lib.hid o3
  clear p3 r3 o3 HQ
  simp only [Fr.zero] at d0 d1 d2 d3 d4
  go_region
  go_wp2
  refine bodyPost_ret (v := .tuple #[.int .i64 j, .agg #[.int .i64 0, .bool false, .bool false, .bool false, .int .i64 0], .bool false, .int .i64 0]) (by simp [results, Tryz.results124, go_sem, d0, d1, d2, d3, d4]) rfl ?_
  rw [HR.out]
  refine take_done HP3.out HO3.out (R := w.heap.size) (by omega) (by omega) (by have := HP.out.ltM; omega) (Nat.le_refl _) rfl ?_
  exact (off_out _ _ _ _ _ _ _).drew
end
end Go.Proofs.YtlhfjaagkgengaaGreat
namespace Go.Proofs.YtlhfjaagkgengaaGreat
open Go.RowKit Go.Maps
set_option linter.unusedVariables false
set_option linter.unusedSimpArgs false

section
variable {w : World} {P B M n : Nat} {F : Nat → Fr} {h : Nat} {g : Int → Option Nat} {c : Nat} {key : Int}

set_option maxRecDepth 100000 in
set_option maxHeartbeats 1000000 in
theorem Take_full (p : PoolAt w P B M n F h g c) (hk : (Lit.int .i64 key).wf = true) (hg : (g key).isSome = false) (hj : freeAt F n = -1) (hlo : loose F n = false) :
    Calls Tryz.prog 124 #[.pointer (some ⟨P, 0, none⟩), .int .i64 key] w (TakePost P B M n (takeR n F h g key) w) := by
  have HR : Hid (takeR n F h g key = ⟨0, Fr.zero, false, 10, F, h, g⟩) := by unfold takeR; rw [if_neg (by rw [hg]; exact Bool.false_ne_true), hj, if_neg (by omega), if_neg (by rw [hlo]; exact Bool.false_ne_true)]; rfl
  have HP := Lib.hid p
  have p0 : PoolAt (w.alloc (.cells #[.int .i64 0, .bool false, .bool false, .bool false, .int .i64 0] 214)) P B M n F h g c := p.up ((Below.refl _ _).alloc (Nat.le_refl _) _)
  have HF := Lib.hid (Find_any p0 hk)
  have HI := Lib.hid (IndexFunc_any 160 (fun f => !f.used) cf1 (fun f w => notUsed_any f w) _ B n F p.most p0.fr)
  have HJ := Lib.hid hj
  have hn := p.most
  have l0 := p0.l0
  have ltw := p.ltP
  have ltb := p.ltB
  have HP0 := Lib.hid p0
  clear p p0 hj
  go_enter Tryz.func124, Tryz.ntmps124
  go_wp2_with fail
  refine HF.out.mono ?_
  rintro e w1 ⟨rfl, rfl⟩
  unfold findV
  rw [hg]
  go_wp2_with fail
  refine HI.out.mono ?_
  rintro e w1 ⟨rfl, hb1⟩
  rw [show first (fun i => !(F i).used) n = -1 from HJ.out]
  have p1 := HP0.out.up hb1
  have r1 : ROut w1 w.heap.size Fr.zero := (hb1.block _ (by simp)).trans (heap_alloc_new w _)
  have o1 : Off (PB P B M) w w1 := (Off.of_below ((Below.refl _ _).alloc (Nat.le_refl _) _)).step hb1
  have l0' := p1.l0
  have HC := Lib.hid (ContainsFunc_any 162 (fun f => f.pins == 0) cf2 (fun f w => noPins_any f w) w1 B n F hn p1.fr)
  have HP1 := Lib.hid p1
  have HR1 := Lib.hid r1
  have HO1 := Lib.hid o1
  clear p1 r1 o1 hb1 l0
  go_wp2_with fail
  refine HC.out.mono ?_
  rintro e w2 ⟨rfl, hb2⟩
  rw [show decide (0 ≤ first (fun i => (F i).pins == 0) n) = loose F n from rfl, hlo]
  have p2 := HP1.out.up hb2
  have r2 : ROut w2 w.heap.size Fr.zero := (hb2.block _ HR1.out.lt).trans HR1.out
  have o2 : Off (PB P B M) w w2 := HO1.out.step hb2
  clear HC hb2 l0'
  obtain ⟨d0, d1, d2, d3, d4⟩ := r2.cells
  have y0 := r2.frozen 0
  have y1 := r2.frozen 1
  have y2 := r2.frozen 2
  have y3 := r2.frozen 3
  have y4 := r2.frozen 4
  have HP2 := Lib.hid p2
  have HO2 := Lib.hid o2
  clear p2 r2 o2
  simp only [Fr.zero] at d0 d1 d2 d3 d4
  go_wp2
  refine bodyPost_ret (v := .tuple #[.int .i64 0, .agg #[.int .i64 0, .bool false, .bool false, .bool false, .int .i64 0], .bool false, .int .i64 10]) (by simp [results, Tryz.results124, go_sem, d0, d1, d2, d3, d4]) rfl ?_
  rw [HR.out]
  refine take_done HP2.out HO2.out (R := w.heap.size) (by omega) (by omega) (by have := HP.out.ltM; omega) (Nat.le_refl _) rfl ?_
  exact off_out _ _ _ _ _ _ _

set_option maxRecDepth 100000 in
set_option maxHeartbeats 2000000 in
theorem Take_give {r : Nat} {F' : Nat → Fr} (p : PoolAt w P B M n F h g c) (hk : (Lit.int .i64 key).wf = true) (hg : (g key).isSome = false) (hj : freeAt F n = -1) (hlo : loose F n = true)
    (hs : sw n (2 * n + 1) h F = ((r : Int), F')) (hrn : r < n) (hcl : Cleared F F') :
    Calls Tryz.prog 124 #[.pointer (some ⟨P, 0, none⟩), .int .i64 key] w (TakePost P B M n (takeR n F h g key) w) := by
  have HR : Hid (takeR n F h g key = ⟨r, F' r, true, 0, putF F' r (Fr.new key), (r + 1) % n, upd (upd g (F' r).key none) key (some r)⟩) := by unfold takeR; rw [if_neg (by rw [hg]; exact Bool.false_ne_true), hj, if_neg (by omega), if_pos hlo, hs]; rfl
  have HS := Lib.hid hs
  have HCL := Lib.hid hcl
  clear hs hcl
  have HP := Lib.hid p
  have p0 : PoolAt (w.alloc (.cells #[.int .i64 0, .bool false, .bool false, .bool false, .int .i64 0] 214)) P B M n F h g c := p.up ((Below.refl _ _).alloc (Nat.le_refl _) _)
  have HF := Lib.hid (Find_any p0 hk)
  have HI := Lib.hid (IndexFunc_any 160 (fun f => !f.used) cf1 (fun f w => notUsed_any f w) _ B n F p.most p0.fr)
  have HJ := Lib.hid hj
  have hn := p.most
  have l0 := p0.l0
  have ltw := p.ltP
  have ltb := p.ltB
  have HP0 := Lib.hid p0
  clear p p0 hj
  go_enter Tryz.func124, Tryz.ntmps124
  go_wp2_with fail
  refine HF.out.mono ?_
  rintro e w1 ⟨rfl, rfl⟩
  unfold findV
  rw [hg]
  go_wp2_with fail
  refine HI.out.mono ?_
  rintro e w1 ⟨rfl, hb1⟩
  rw [show first (fun i => !(F i).used) n = -1 from HJ.out]
  have p1 := HP0.out.up hb1
  have r1 : ROut w1 w.heap.size Fr.zero := (hb1.block _ (by simp)).trans (heap_alloc_new w _)
  have o1 : Off (PB P B M) w w1 := (Off.of_below ((Below.refl _ _).alloc (Nat.le_refl _) _)).step hb1
  have l0' := p1.l0
  have HC := Lib.hid (ContainsFunc_any 162 (fun f => f.pins == 0) cf2 (fun f w => noPins_any f w) w1 B n F hn p1.fr)
  have HP1 := Lib.hid p1
  have HR1 := Lib.hid r1
  have HO1 := Lib.hid o1
  clear p1 r1 o1 hb1 l0
  go_wp2_with fail
  refine HC.out.mono ?_
  rintro e w2 ⟨rfl, hb2⟩
  rw [show decide (0 ≤ first (fun i => (F i).pins == 0) n) = loose F n from rfl, hlo]
  have p2 := HP1.out.up hb2
  have r2 : ROut w2 w.heap.size Fr.zero := (hb2.block _ HR1.out.lt).trans HR1.out
  have o2 : Off (PB P B M) w w2 := HO1.out.step hb2
  clear HC hb2 l0'
  have l0 := p2.l0
  have l2 := p2.l2
  have HP2 := Lib.hid p2
  have HR2 := Lib.hid r2
  have HO2 := Lib.hid o2
  clear p2 r2 o2
  go_upto_region 8 with (fail)
  go_still_tail 8, (by kernel_rfl)
  change wpList _ _ _ _ _ w2.drew
  go_wp2_with fail
  refine (sweep_any w2.drew B n h F hn HP2.out.pos HP2.out.hand HP2.out.drew.fr HP2.out.drew.fz).mono ?_
  rintro e w3 ⟨rfl, hfr, hfz, ho⟩
  rw [HS.out] at hfr ⊢
  simp only at hfr ⊢
  have hkw : ∀ i, i < n → (Lit.int .i64 (F' i).key).wf = true := fun i hi => by rw [(HCL.out i).1]; exact HP2.out.kw i hi
  have HKW := Lib.hid (hkw r hrn)
  have p3 := HP2.out.drew.frames hfr hfz ho hkw
  have hRB : w.heap.size ≠ B := by omega
  have r3 : ROut w3 w.heap.size Fr.zero := (ho.block _ HR2.out.lt hRB).trans HR2.out
  have o3 : Off (PB P B M) w w3 := HO2.out.drew.trans (ho.mono fun k e => .inr (.inl e))
  clear hfr hfz ho hkw HF HI HJ HP1 HR1 HO1 HP2 HR2 HO2 l0 l2
  have l0 := p3.l0
  obtain ⟨c0, c1, c2, c3, c4⟩ := p3.fr r hrn
  obtain ⟨d0, d1, d2, d3, d4⟩ := r3.cells
  have y0 := r3.frozen 0
  have y1 := r3.frozen 1
  have y2 := r3.frozen 2
  have y3 := r3.frozen 3
  have y4 := r3.frozen 4
  have HX : Hid (∀ W, W = (((((w3.setCell ⟨w.heap.size, 0, none⟩ (.int .i64 (F' r).key)).setCell ⟨w.heap.size, 1, none⟩ (.bool (F' r).used)).setCell ⟨w.heap.size, 2, none⟩ (.bool (F' r).ref)).setCell ⟨w.heap.size, 3, none⟩ (.bool (F' r).dirty)).setCell ⟨w.heap.size, 4, none⟩ (.int .i64 (F' r).pins)) → PoolAt W P B M n F' h g c ∧ ROut W w.heap.size (F' r) ∧ Off (PB P B M) w W) := by
    rintro W rfl
    have h1 := off_out w3 w.heap.size (.int .i64 (F' r).key) (.bool (F' r).used) (.bool (F' r).ref) (.bool (F' r).dirty) (.int .i64 (F' r).pins)
    refine ⟨p3.off h1 (fun e => by have := HP.out.ltP; omega) (fun e => hRB e.symm) (fun e => by have := HP.out.ltM; omega), ?_, o3.late h1 (fun i hi e => by omega)⟩
    unfold ROut at r3 ⊢
    simp [World.setCell, Array.getElem?_modify, r3]
  have HP3 := Lib.hid p3
  clear p3 r3 o3
  simp only [Fr.zero] at d0 d1 d2 d3 d4
  go_upto_region 10 with (fail)
  refine wp_forget (fun W => PoolAt W P B M n F' h g c ∧ ROut W w.heap.size (F' r) ∧ Off (PB P B M) w W) (HX.out _ rfl) ?_
  clear HX HP3 c0 c1 c2 c3 c4 d0 d1 d2 d3 d4 y0 y1 y2 y3 y4 l0 w3
  rintro w4 ⟨p4, r4, o4⟩
  obtain ⟨d0, d1, d2, d3, d4⟩ := r4.cells
  have l1 := p4.l1
  obtain ⟨k1, hk1⟩ := name_key HKW.out
  have HD := Lib.hid (p4.drew.mp.del (t := 218) nameKeyed Tryz.underlying218 hk1 0)
  have HP4 := Lib.hid p4
  have HR4 := Lib.hid r4
  have HO4 := Lib.hid o4
  clear p4 r4 o4 hk1 d1 d2 d3 d4
  go_still_tail 7, (by kernel_rfl)
  obtain ⟨w5, hrun, hm, ho⟩ := HD.out
  rw [keyF_del] at hm
  have p5 := HP4.out.drew.mapped hm ho
  have r5 : ROut w5 w.heap.size (F' r) := (ho.block _ HR4.out.lt (fun e => by have := HP.out.ltM; omega)).trans HR4.out
  have o5 : Off (PB P B M) w w5 := HO4.out.drew.trans (ho.mono fun k e => .inr (.inr e))
  refine wpList_delete_run rfl _ _ _ _ rfl _ _ rfl rfl hrun ?_
  clear hrun hm ho HD HP4 HR4 HO4 l1 d0
  generalize (if (keyF g (.agg #[.int .i64 (F' r).key])).isSome then c - 1 else c) = c5 at p5
  have l0 := p5.l0
  have l2 := p5.l2
  have z := p5.lz 2
  have hm : ((r : Int) + 1) % (n : Int) = (((r + 1) % n : Nat) : Int) := by rw [Int.natCast_emod]; simp
  have HM := Lib.hid hm
  have hml : (r + 1) % n < n := Nat.mod_lt _ p5.pos
  have HX : Hid (∀ W, W = w5.setCell ⟨P, 2, none⟩ (.int .i64 (((r : Int) + 1) % (n : Int))) → PoolAt W P B M n F' ((r + 1) % n) (upd g (F' r).key none) c5 ∧ ROut W w.heap.size (F' r) ∧ Off (PB P B M) w W) := by
    rintro W rfl
    rw [hm]
    refine ⟨p5.moved hml, ?_, o5.setCell (.inl rfl) _⟩
    unfold ROut at r5 ⊢
    rw [Below.heap_setCell _ _ _ _ (by show w.heap.size ≠ P; omega)]
    exact r5
  have hpos := p5.pos
  clear p5 r5 o5 hm
  go_upto_region 12 with (fail)
  refine wp_forget (fun W => PoolAt W P B M n F' ((r + 1) % n) (upd g (F' r).key none) c5 ∧ ROut W w.heap.size (F' r) ∧ Off (PB P B M) w W) (HX.out _ rfl) ?_
  clear HX l0 l2 z w5
  rintro w6 ⟨p6, r6, o6⟩
  obtain ⟨c0, c1, c2, c3, c4⟩ := p6.fr r hrn
  have z0 := p6.fz (r * 5)
  have z1 := p6.fz (r * 5 + 1)
  have z2 := p6.fz (r * 5 + 2)
  have z3 := p6.fz (r * 5 + 3)
  have z4 := p6.fz (r * 5 + 4)
  have l0' := p6.l0
  have HX : Hid (∀ W, W = (((((w6.setCell ⟨B, r * 5, none⟩ (.int .i64 key)).setCell ⟨B, r * 5 + 1, none⟩ (.bool true)).setCell ⟨B, r * 5 + 2, none⟩ (.bool true)).setCell ⟨B, r * 5 + 3, none⟩ (.bool false)).setCell ⟨B, r * 5 + 4, none⟩ (.int .i64 0)) → PoolAt W P B M n (putF F' r (Fr.new key)) ((r + 1) % n) (upd g (F' r).key none) c5 ∧ ROut W w.heap.size (F' r) ∧ Off (PB P B M) w W) := by
    rintro W rfl
    have hB : ∀ o, PB P B M (⟨B, o, none⟩ : Addr).block := fun o => .inr (.inl rfl)
    refine ⟨p6.put (f := Fr.new key) hrn hk, ?_, ((((o6.setCell (hB _) _).setCell (hB _) _).setCell (hB _) _).setCell (hB _) _).setCell (hB _) _⟩
    unfold ROut at r6 ⊢
    rw [Below.heap_setCell _ _ _ _ hRB, Below.heap_setCell _ _ _ _ hRB, Below.heap_setCell _ _ _ _ hRB, Below.heap_setCell _ _ _ _ hRB, Below.heap_setCell _ _ _ _ hRB]
    exact r6
  clear p6 r6 o6
  go_upto_region 13 with (fail)
  refine wp_forget (fun W => PoolAt W P B M n (putF F' r (Fr.new key)) ((r + 1) % n) (upd g (F' r).key none) c5 ∧ ROut W w.heap.size (F' r) ∧ Off (PB P B M) w W) (HX.out _ rfl) ?_
  clear HX c0 c1 c2 c3 c4 z0 z1 z2 z3 z4 l0' w6
  rintro w7 ⟨p7, r7, o7⟩
  obtain ⟨l, hl⟩ := name_key hk
  obtain ⟨w8, hrun, hmm, ho⟩ := p7.mp.put (val := .int .i64 r) nameKeyed Tryz.underlying218 hl
  rw [keyF_put] at hmm
  have l1 := p7.l1
  have HQ : Hid (PoolAt w8 P B M n (putF F' r (Fr.new key)) ((r + 1) % n) (upd (upd g (F' r).key none) key (some r)) _ ∧ ROut w8 w.heap.size (F' r) ∧ Off (PB P B M) w w8) :=
    ⟨p7.mapped hmm ho, (ho.block _ r7.lt (fun e => by have := HP.out.ltM; omega)).trans r7, o7.trans (ho.mono fun k e => .inr (.inr e))⟩
  clear p7 r7 o7 hmm ho hl
  go_wp2
  obtain ⟨p3, r3, o3⟩ := HQ.out
  obtain ⟨d0, d1, d2, d3, d4⟩ := r3.cells
  have y0 := r3.frozen 0
  have y1 := r3.frozen 1
  have y2 := r3.frozen 2
  have y3 := r3.frozen 3
  have y4 := r3.frozen 4
  have HP3 := Lib.hid p3
  have HO3 := Lib.hid o3
  clear p3 r3 o3 HQ hrun
  go_region
  go_wp2
  refine bodyPost_ret (v := .tuple #[.int .i64 r, .agg #[.int .i64 (F' r).key, .bool (F' r).used, .bool (F' r).ref, .bool (F' r).dirty, .int .i64 (F' r).pins], .bool true, .int .i64 0]) (by simp [results, Tryz.results124, go_sem, d0, d1, d2, d3, d4]) rfl ?_
  rw [HR.out]
  refine take_done HP3.out HO3.out (R := w.heap.size) (by omega) (by omega) (by have := HP.out.ltM; omega) (Nat.le_refl _) rfl ?_
  exact (off_out _ _ _ _ _ _ _).drew
end
end Go.Proofs.YtlhfjaagkgengaaGreat
namespace Go.Proofs.YtlhfjaagkgengaaGreat
open Go.RowKit Go.Maps
set_option linter.unusedVariables false
set_option linter.unusedSimpArgs false

section
variable {w : World} {P B M n : Nat} {F : Nat → Fr} {h : Nat} {g : Int → Option Nat} {c : Nat} {key : Int}

theorem Take_any (p : PoolAt w P B M n F h g c) (hk : (Lit.int .i64 key).wf = true) :
    Calls Tryz.prog 124 #[.pointer (some ⟨P, 0, none⟩), .int .i64 key] w (TakePost P B M n (takeR n F h g key) w) := by
  cases hg : (g key).isSome
  · rcases first_spec (fun i => !(F i).used) n with ⟨h1, h2⟩ | ⟨j, h1, h2, h3, h4⟩
    · cases hl : loose F n
      · exact Take_full p hk hg h1 hl
      · have hc : ∃ i, i < n ∧ (F i).cand = true := by
          unfold loose at hl
          rcases first_spec (fun i => (F i).pins == 0) n with ⟨k1, k2⟩ | ⟨j, k1, k2, k3, k4⟩
          · rw [k1] at hl; cases hl
          · refine ⟨j, k2, ?_⟩
            have hu := h2 j k2
            simp at hu k3
            simp [Fr.cand, hu, k3]
        obtain ⟨i, hi, hci⟩ := hc
        obtain ⟨r, k1, k2, k3, k4⟩ := sw_some p.hand hi hci
        exact Take_give p hk hg h1 hl (r := r) (F' := (sw n (2 * n + 1) h F).2) (by rw [← k1]) k2 (sw_form n p.pos (2 * n + 1) h F p.hand).1
    · exact Take_free p hk hg h1 h2
  · exact Take_used p hk hg


set_option maxHeartbeats 400000 in
theorem used_yes (p : PoolAt w P B M n F h g c) (f : Nat) (hf : f < n) (hu : (F f).used = true) :
    Calls Tryz.prog 147 #[.pointer (some ⟨P, 0, none⟩), .int .i64 f] w fun e w' => e = .returned (.pointer (some ⟨B, f * 5, none⟩)) ∧ w = w' := by
  have l0 := p.l0
  have c1 := (p.fr f hf).c1
  rw [hu] at c1
  have hn := p.most
  clear hu
  go_enter Tryz.func147, Tryz.ntmps147
  go_wp2
  go_ret
  exact ⟨rfl, rfl⟩

set_option maxHeartbeats 400000 in
theorem used_no (p : PoolAt w P B M n F h g c) (f : Int) (hf : f < 0 ∨ (n : Int) ≤ f ∨ (F f.toNat).used = false) :
    Calls Tryz.prog 147 #[.pointer (some ⟨P, 0, none⟩), .int .i64 f] w fun e w' => e = .returned (.pointer none) ∧ w = w' := by
  have l0 := p.l0
  have hn := p.most
  by_cases h1 : f < 0
  · clear hf
    go_enter Tryz.func147, Tryz.ntmps147
    go_wp2
    go_ret
    exact ⟨rfl, rfl⟩
  · obtain ⟨k, rfl⟩ := Int.eq_ofNat_of_zero_le (Int.not_lt.1 h1)
    by_cases h2 : n ≤ k
    · clear hf
      go_enter Tryz.func147, Tryz.ntmps147
      go_wp2
      go_ret
      exact ⟨rfl, rfl⟩
    · have hu : (F k).used = false := by
        rcases hf with h | h | h
        · omega
        · omega
        · simpa using h
      have c1 := (p.fr k (by omega)).c1
      rw [hu] at c1
      clear hf hu
      go_enter Tryz.func147, Tryz.ntmps147
      go_wp2
      go_ret
      exact ⟨rfl, rfl⟩
end

/-- One cell of a frame is written. -/
theorem FrS.set {w : World} {B n k s : Nat} {F : Nat → Fr} {v : Value} {f : Fr} (h : FrS w B n F) (hk : k < n) (hs : s < 5)
    (h0 : s ≠ 0 → f.key = (F k).key) (h1 : s ≠ 1 → f.used = (F k).used) (h2 : s ≠ 2 → f.ref = (F k).ref) (h3 : s ≠ 3 → f.dirty = (F k).dirty) (h4 : s ≠ 4 → f.pins = (F k).pins)
    (e0 : s = 0 → v = .int .i64 f.key) (e1 : s = 1 → v = .bool f.used) (e2 : s = 2 → v = .bool f.ref) (e3 : s = 3 → v = .bool f.dirty) (e4 : s = 4 → v = .int .i64 f.pins) :
    FrS (w.setCell ⟨B, k * 5 + s, none⟩ v) B n (putF F k f) := by
  intro i hi
  have hi5 := h i hi
  have o : ∀ r, k * 5 + s ≠ r → (w.setCell ⟨B, k * 5 + s, none⟩ v).cell? ⟨B, r, none⟩ = w.cell? ⟨B, r, none⟩ := fun r h1 => World.cell?_setCell_other _ _ _ _ (fun he => by injection he with _ he; exact h1 he)
  unfold putF
  by_cases hik : i = k
  · subst hik
    rw [if_pos rfl]
    refine ⟨?_, ?_, ?_, ?_, ?_⟩
    · by_cases hr : s = 0
      · subst hr; rw [← e0 rfl]; exact World.cell?_setCell_same _ _ _ hi5.c0
      · rw [o _ (by omega), hi5.c0, h0 hr]
    · by_cases hr : s = 1
      · subst hr; rw [← e1 rfl]; exact World.cell?_setCell_same _ _ _ hi5.c1
      · rw [o _ (by omega), hi5.c1, h1 hr]
    · by_cases hr : s = 2
      · subst hr; rw [← e2 rfl]; exact World.cell?_setCell_same _ _ _ hi5.c2
      · rw [o _ (by omega), hi5.c2, h2 hr]
    · by_cases hr : s = 3
      · subst hr; rw [← e3 rfl]; exact World.cell?_setCell_same _ _ _ hi5.c3
      · rw [o _ (by omega), hi5.c3, h3 hr]
    · by_cases hr : s = 4
      · subst hr; rw [← e4 rfl]; exact World.cell?_setCell_same _ _ _ hi5.c4
      · rw [o _ (by omega), hi5.c4, h4 hr]
  · rw [if_neg hik]
    exact ⟨(o _ (by omega)).trans hi5.c0, (o _ (by omega)).trans hi5.c1, (o _ (by omega)).trans hi5.c2, (o _ (by omega)).trans hi5.c3, (o _ (by omega)).trans hi5.c4⟩

theorem PoolAt.set {w : World} {P B M n h c k s : Nat} {F : Nat → Fr} {g : Int → Option Nat} {v : Value} {f : Fr} (p : PoolAt w P B M n F h g c) (hk : k < n) (hs : s < 5) (hs0 : s ≠ 0)
    (h0 : f.key = (F k).key) (h1 : s ≠ 1 → f.used = (F k).used) (h2 : s ≠ 2 → f.ref = (F k).ref) (h3 : s ≠ 3 → f.dirty = (F k).dirty) (h4 : s ≠ 4 → f.pins = (F k).pins)
    (e1 : s = 1 → v = .bool f.used) (e2 : s = 2 → v = .bool f.ref) (e3 : s = 3 → v = .bool f.dirty) (e4 : s = 4 → v = .int .i64 f.pins) :
    PoolAt (w.setCell ⟨B, k * 5 + s, none⟩ v) P B M n (putF F k f) h g c := by
  refine p.frames (FrS.set p.fr hk hs (fun _ => h0) h1 h2 h3 h4 (fun e => absurd e hs0) e1 e2 e3 e4) (fun j => by rw [World.frozen?_setCell]; exact p.fz j) ((Off.refl (· = B) w).setCell (p := ⟨B, k * 5 + s, none⟩) rfl _) (fun i hi => ?_)
  unfold putF
  split
  · rw [h0]; exact p.kw k hk
  · exact p.kw i hi

/-- A method that answers an error and changes the pool. -/
def OpPost (P B M n : Nat) (e0 : Int) (F : Nat → Fr) (h : Nat) (g : Int → Option Nat) (w : World) (e : Ending) (w' : World) : Prop :=
  e = .returned (.int .i64 e0) ∧ (∃ c', PoolAt w' P B M n F h g c') ∧ Off (PB P B M) w w'

theorem put_put (F : Nat → Fr) (k : Nat) (a b : Fr) : putF (putF F k a) k b = putF F k b := by
  funext i; unfold putF; split <;> rfl

section
variable {w : World} {P B M n : Nat} {F : Nat → Fr} {h : Nat} {g : Int → Option Nat} {c : Nat}

set_option maxHeartbeats 400000 in
theorem Touch_yes (p : PoolAt w P B M n F h g c) (f : Nat) (write : Bool) (hf : f < n) (hu : (F f).used = true) :
    Calls Tryz.prog 122 #[.pointer (some ⟨P, 0, none⟩), .int .i64 f, .bool write] w (OpPost P B M n 0 (putF F f { F f with ref := true, dirty := (F f).dirty || write }) h g w) := by
  have HU := Lib.hid (used_yes p f hf hu)
  have c2 := (p.fr f hf).c2
  have c3 := (p.fr f hf).c3
  have z2 := p.fz (f * 5 + 2)
  have z3 := p.fz (f * 5 + 3)
  have HX : Hid (∀ b : Bool, b = ((F f).dirty || write) → ∀ W, W = (w.setCell ⟨B, f * 5 + 2, none⟩ (.bool true)).setCell ⟨B, f * 5 + 3, none⟩ (.bool b) → ∀ e, e = .returned (.int .i64 0) → OpPost P B M n 0 (putF F f { F f with ref := true, dirty := (F f).dirty || write }) h g w e W) := by
    rintro b rfl W rfl e rfl
    refine ⟨rfl, ⟨c, ?_⟩, ((Off.refl _ _).setCell (.inr (.inl rfl)) _).setCell (.inr (.inl rfl)) _⟩
    have p1 := p.set (f := { F f with ref := true }) (s := 2) (v := .bool true) hf (by omega) (by omega) rfl (fun _ => rfl) (fun e => absurd rfl e) (fun _ => rfl) (fun _ => rfl) (fun e => by omega) (fun _ => rfl) (fun e => by omega) (fun e => by omega)
    have p2 := p1.set (f := { F f with ref := true, dirty := (F f).dirty || write }) (s := 3) (v := .bool ((F f).dirty || write)) hf (by omega) (by omega) (by simp [putF]) (fun _ => by simp [putF]) (fun _ => by simp [putF]) (fun e => absurd rfl e) (fun _ => by simp [putF]) (fun e => by omega) (fun e => by omega) (fun _ => rfl) (fun e => by omega)
    rw [put_put] at p2
    exact p2
  clear p hu
  go_enter Tryz.func122, Tryz.ntmps122
  go_wp2_with fail
  refine HU.out.mono ?_
  rintro e w1 ⟨rfl, rfl⟩
  go_wp2
  all_goals
    go_ret
    exact HX.out _ (by simp [*]) _ rfl _ rfl
set_option maxHeartbeats 400000 in
theorem Touch_no (p : PoolAt w P B M n F h g c) (f : Int) (write : Bool) (hf : f < 0 ∨ (n : Int) ≤ f ∨ (F f.toNat).used = false) :
    Calls Tryz.prog 122 #[.pointer (some ⟨P, 0, none⟩), .int .i64 f, .bool write] w (OpPost P B M n 2 F h g w) := by
  have HU := Lib.hid (used_no p f hf)
  have HP := Lib.hid p
  clear p hf
  go_enter Tryz.func122, Tryz.ntmps122
  go_wp2_with fail
  refine HU.out.mono ?_
  rintro e w1 ⟨rfl, rfl⟩
  go_wp2
  go_ret
  exact ⟨rfl, ⟨c, HP.out⟩, Off.refl _ _⟩
end
end Go.Proofs.YtlhfjaagkgengaaGreat
namespace Go.Proofs.YtlhfjaagkgengaaGreat
open Go.RowKit Go.Maps
set_option linter.unusedVariables false
set_option linter.unusedSimpArgs false

theorem frame_info : (Tryz.prog.info? 214).map (fun i => (i.zero, i.size, i.bytes)) = some (some (.agg #[.int .i64 0, .bool false, .bool false, .bool false, .int .i64 0]), 5, 24) := by kernel_rfl

theorem made_at (z : Array Value) (m j : Nat) (hj : j < m) : (madeCells z m)[j]? = some (z[j % z.size]!) := by
  unfold madeCells
  simp [hj]

def zeroCells (n : Nat) : Array Value := madeCells #[.int .i64 0, .bool false, .bool false, .bool false, .int .i64 0] (n * 5)
theorem zero_at (n i : Nat) (hi : i < n) : (zeroCells n)[i * 5]? = some (.int .i64 0) ∧ (zeroCells n)[i * 5 + 1]? = some (.bool false) ∧ (zeroCells n)[i * 5 + 2]? = some (.bool false) ∧ (zeroCells n)[i * 5 + 3]? = some (.bool false) ∧ (zeroCells n)[i * 5 + 4]? = some (.int .i64 0) := by
  unfold zeroCells
  refine ⟨?_, ?_, ?_, ?_, ?_⟩
  all_goals
    rw [made_at _ _ _ (by omega)]
    simp only [List.size_toArray, List.length_cons, List.length_nil, Nat.zero_add, Nat.reduceAdd]
  · rw [show i * 5 % 5 = 0 by omega]; rfl
  · rw [show (i * 5 + 1) % 5 = 1 by omega]; rfl
  · rw [show (i * 5 + 2) % 5 = 2 by omega]; rfl
  · rw [show (i * 5 + 3) % 5 = 3 by omega]; rfl
  · rw [show (i * 5 + 4) % 5 = 4 by omega]; rfl

theorem run_make_frames (n : Nat) (hn : n ≤ 4096) (w : World) :
    (Instr.makeSlice 217 (.int .i64 (n : Int)) (.int .i64 (n : Int))).run Tryz.prog w = .ok (.slice (some ⟨w.heap.size, 0, none⟩) n n) (w.alloc (.cells (zeroCells n) 214)) := by
  obtain ⟨i0, hi, hz0, hz1, hz2⟩ := info_parts frame_info
  have h := run_make (P := Tryz.prog) w 217 214 i0 _ Tryz.underlying217 hi hz0 .i64 .i64 n n (by omega) (by omega) (by rw [hz2]; omega) (by omega)
  rw [h]
  simp [hz1, Value.cells, zeroCells]

def NewPost (n : Nat) (w : World) (e : Ending) (w' : World) : Prop :=
  ∃ P B M, e = .returned (.tuple #[.pointer (some ⟨P, 0, none⟩), .int .i64 0]) ∧ PoolAt w' P B M n (fun _ => Fr.zero) 0 (fun _ => none) 0 ∧ w.heap.size ≤ P ∧ w.heap.size ≤ B ∧ w.heap.size ≤ M ∧ Below w.heap.size w w'

theorem new_pool (w : World) (n : Nat) (h1 : 0 < n) (h2 : n ≤ 4096) (t : TypeId) :
    PoolAt (((w.alloc (.cells (zeroCells n) 214)).alloc (.map #[] 0)).alloc (.cells #[.slice (some ⟨w.heap.size, 0, none⟩) n n, .map (some (w.heap.size + 1)), .int .i64 0] t)) (w.heap.size + 2) w.heap.size (w.heap.size + 1) n (fun _ => Fr.zero) 0 (fun _ => none) 0 := by
  obtain ⟨w1, hw1⟩ : ∃ w1, w1 = w.alloc (.cells (zeroCells n) 214) := ⟨_, rfl⟩
  obtain ⟨w2, hw2⟩ : ∃ w2, w2 = w1.alloc (.map #[] 0) := ⟨_, rfl⟩
  rw [← hw1, ← hw2]
  have s1 : w1.heap.size = w.heap.size + 1 := by rw [hw1]; simp
  have s2 : w2.heap.size = w.heap.size + 2 := by rw [hw2]; simp [s1]
  have b0 : w1.heap[w.heap.size]? = some (.cells (zeroCells n) 214 (0, 0)) := by rw [hw1]; exact heap_alloc_new w _
  have b0' : w2.heap[w.heap.size]? = some (.cells (zeroCells n) 214 (0, 0)) := by rw [hw2, Below.heap_alloc _ _ _ (by omega)]; exact b0
  have b1 : MapIs Tryz.prog 242 w2 (w.heap.size + 1) (fun _ => none) 0 := by
    rw [hw2, ← s1]; exact MapIs.made w1
  generalize hw3 : w2.alloc (.cells #[.slice (some ⟨w.heap.size, 0, none⟩) n n, .map (some (w.heap.size + 1)), .int .i64 0] t) = w3
  have b3 : w3.heap[w.heap.size + 2]? = some (.cells #[.slice (some ⟨w.heap.size, 0, none⟩) n n, .map (some (w.heap.size + 1)), .int .i64 0] t (0, 0)) := by rw [← hw3, ← s2]; exact heap_alloc_new w2 _
  have b03 : w3.heap[w.heap.size]? = some (.cells (zeroCells n) 214 (0, 0)) := by rw [← hw3, Below.heap_alloc _ _ _ (by omega)]; exact b0'
  have b13 : MapIs Tryz.prog 242 w3 (w.heap.size + 1) (keyF fun _ => none) 0 := by
    have : (keyF fun _ => none) = fun _ => none := by funext v; unfold keyF; cases nameOf v <;> rfl
    rw [this]
    exact b1.of_block (by rw [← hw3, Below.heap_alloc _ _ _ (by omega)])
  refine ⟨?_, ?_, ?_, fun i => ?_, fun i hi => ?_, fun j => ?_, b13, by omega, h1, h2, h1, fun _ _ => by decide⟩
  · rw [cell_of_row _ _ _ _ _ _ b3]; rfl
  · rw [cell_of_row _ _ _ _ _ _ b3]; rfl
  · rw [cell_of_row _ _ _ _ _ _ b3]; rfl
  · simp [World.frozen?, b3]
  · obtain ⟨z0, z1, z2, z3, z4⟩ := zero_at n i hi
    refine ⟨?_, ?_, ?_, ?_, ?_⟩
    all_goals rw [cell_of_row _ _ _ _ _ _ b03]
    all_goals assumption
  · simp [World.frozen?, b03]

set_option maxHeartbeats 400000 in
theorem New_any (w : World) (n : Nat) (h1 : 0 < n) (h2 : n ≤ 4096) : Calls Tryz.prog 97 #[.int .i64 n] w (NewPost n w) := by
  have hmk := run_make_frames n h2
  have hmm := @run_makeMap Tryz.prog
  have HX : Hid (∀ t W, W = (((w.alloc (.cells (zeroCells n) 214)).alloc (.map #[] 0)).alloc (.cells #[.slice (some ⟨w.heap.size, 0, none⟩) n n, .map (some (w.heap.size + 1)), .int .i64 0] t)) → ∀ e, e = .returned (.tuple #[.pointer (some ⟨w.heap.size + 2, 0, none⟩), .int .i64 0]) → NewPost n w e W) := by
    rintro t W rfl e rfl
    exact ⟨_, _, _, rfl, new_pool w n h1 h2 t, by omega, by omega, by omega, (((Below.refl _ _).alloc (Nat.le_refl _) _).alloc (by simp) _).alloc (by simp; omega) _⟩
  go_enter Tryz.func97, Tryz.ntmps97
  go_wp2
  go_ret2
  exact HX.out _ _ rfl _ rfl
end Go.Proofs.YtlhfjaagkgengaaGreat
namespace Go.Proofs.YtlhfjaagkgengaaGreat
open Go.RowKit Go.Maps
set_option linter.unusedVariables false
set_option linter.unusedSimpArgs false

section
variable {w : World} {P B M n : Nat} {F : Nat → Fr} {h : Nat} {g : Int → Option Nat} {c : Nat}
/-- How many of the first k frames meet q. -/
def cntF (q : Fr → Bool) (F : Nat → Fr) : Nat → Nat
  | 0 => 0
  | k + 1 => cntF q F k + if q (F k) then 1 else 0
end
section
variable {w : World} {P B M n : Nat} {F : Nat → Fr} {h : Nat} {g : Int → Option Nat} {c : Nat}
theorem cntF_le (q : Fr → Bool) (F : Nat → Fr) (k : Nat) : cntF q F k ≤ k := by
  induction k with
  | zero => simp [cntF]
  | succ k ih => unfold cntF; split <;> omega
end
section
variable {w : World} {P B M n : Nat} {F : Nat → Fr} {h : Nat} {g : Int → Option Nat} {c : Nat}
theorem cntF_yes {q : Fr → Bool} {F : Nat → Fr} {k : Nat} (h : q (F k) = true) : cntF q F (k + 1) = cntF q F k + 1 := by simp [cntF, h]
end
section
variable {w : World} {P B M n : Nat} {F : Nat → Fr} {h : Nat} {g : Int → Option Nat} {c : Nat}
theorem cntF_no {q : Fr → Bool} {F : Nat → Fr} {k : Nat} (h : q (F k) = false) : cntF q F (k + 1) = cntF q F k := by simp [cntF, h]
end
section
variable {w : World} {P B M n : Nat} {F : Nat → Fr} {h : Nat} {g : Int → Option Nat} {c : Nat}
def qUsed (f : Fr) : Bool := f.used
end
section
variable {w : World} {P B M n : Nat} {F : Nat → Fr} {h : Nat} {g : Int → Option Nat} {c : Nat}
def qDirty (f : Fr) : Bool := f.dirty
end
section
variable {w : World} {P B M n : Nat} {F : Nat → Fr} {h : Nat} {g : Int → Option Nat} {c : Nat}
def qPinned (f : Fr) : Bool := decide (0 < f.pins)
end
section
variable {w : World} {P B M n : Nat} {F : Nat → Fr} {h : Nat} {g : Int → Option Nat} {c : Nat}
set_option maxRecDepth 100000 in
set_option maxHeartbeats 2000000 in
theorem Count_any (p : PoolAt w P B M n F h g c) :
    Calls Tryz.prog 82 #[.pointer (some ⟨P, 0, none⟩)] w fun e w' => e = .returned (.tuple #[.int .i64 (cntF qUsed F n : Nat), .int .i64 (cntF qDirty F n : Nat), .int .i64 (cntF qPinned F n : Nat)]) ∧ Below w.heap.size w w' := by
  have l0 := p.l0
  have hn := p.most
  have HP := Lib.hid p
  clear p
  go_enter Tryz.func82, Tryz.ntmps82
  go_wp2
  go_loopw [2, 3, 4, 12] (fun u d q i wr => ∃ (k a b x : Nat), k ≤ n ∧ i = .int .i64 k ∧ u = .int .i64 a ∧ d = .int .i64 b ∧ q = .int .i64 x ∧ a = cntF qUsed F k ∧ b = cntF qDirty F k ∧ x = cntF qPinned F k ∧ Below w.heap.size w wr) (fun _ _ _ i _ => n - (intOf i).toNat)
  case atStart => exact ⟨0, 0, 0, 0, Nat.zero_le _, rfl, rfl, rfl, rfl, rfl, rfl, rfl, Below.refl _ _⟩
  case round =>
    obtain ⟨k, a, b, x, hk, rfl, rfl, rfl, rfl, ha, hb, hx, hbl⟩ := hrel
    have a1 := cntF_le qUsed F k
    have b1 := cntF_le qDirty F k
    have x1 := cntF_le qPinned F k
    rw [← ha] at a1
    rw [← hb] at b1
    rw [← hx] at x1
    have HAB : Hid (a = cntF qUsed F k ∧ b = cntF qDirty F k ∧ x = cntF qPinned F k ∧ Below w.heap.size w wr) := ⟨ha, hb, hx, hbl⟩
    by_cases hlt : k < n
    · obtain ⟨c0, c1, c2, c3, c4⟩ := (HP.out.up hbl).fr k hlt
      clear ha hb hx hbl
      cases hu : (F k).used <;> cases hd : (F k).dirty <;> by_cases hp : 0 < (F k).pins
      all_goals
        go_wp2
        go_roundw
        case rel =>
          obtain ⟨ha, hb, hx, hbl⟩ := HAB.out
          refine ⟨k + 1, _, _, _, by omega, by go_num, by first | rfl | go_num, by first | rfl | go_num, by first | rfl | go_num, ?_, ?_, ?_, hbl.alloc hbl.size _⟩
          · first | (rw [cntF_yes (q := qUsed) hu, ← ha]; done) | (rw [cntF_no (q := qUsed) hu]; exact ha)
          · first | (rw [cntF_yes (q := qDirty) hd, ← hb]; done) | (rw [cntF_no (q := qDirty) hd]; exact hb)
          · first | (rw [cntF_yes (q := qPinned) (by simp [qPinned, hp]), ← hx]; done) | (rw [cntF_no (q := qPinned) (by simp [qPinned]; omega)]; exact hx)
        case measure => simp [intOf]; omega
    · clear ha hb hx hbl
      go_wp2
      go_ret3
      obtain ⟨ha, hb, hx, hbl⟩ := HAB.out
      obtain rfl : n = k := by omega
      exact ⟨by rw [← ha, ← hb, ← hx]; rfl, hbl⟩
end
section
variable {w : World} {P B M n : Nat} {F : Nat → Fr} {h : Nat} {g : Int → Option Nat} {c : Nat}
set_option maxRecDepth 100000 in
set_option maxHeartbeats 400000 in
theorem Clean_yes (p : PoolAt w P B M n F h g c) (f : Nat) (hf : f < n) (hu : (F f).used = true) :
    Calls Tryz.prog 142 #[.pointer (some ⟨P, 0, none⟩), .int .i64 f] w (OpPost P B M n 0 (putF F f { F f with dirty := false }) h g w) := by
  have HU := Lib.hid (used_yes p f hf hu)
  have c3 := (p.fr f hf).c3
  have z3 := p.fz (f * 5 + 3)
  have HX : Hid (OpPost P B M n 0 (putF F f { F f with dirty := false }) h g w (.returned (.int .i64 0)) (w.setCell ⟨B, f * 5 + 3, none⟩ (.bool false))) :=
    ⟨rfl, ⟨c, p.set (f := { F f with dirty := false }) (s := 3) hf (by omega) (by omega) rfl (fun _ => rfl) (fun _ => rfl) (fun e => absurd rfl e) (fun _ => rfl) (fun e => by omega) (fun e => by omega) (fun _ => rfl) (fun e => by omega)⟩, (Off.refl _ _).setCell (.inr (.inl rfl)) _⟩
  clear p hu
  go_enter Tryz.func142, Tryz.ntmps142
  go_wp2_with fail
  refine HU.out.mono ?_
  rintro e w1 ⟨rfl, rfl⟩
  go_wp2
  go_ret
  exact HX.out
end
section
variable {w : World} {P B M n : Nat} {F : Nat → Fr} {h : Nat} {g : Int → Option Nat} {c : Nat}
set_option maxRecDepth 100000 in
set_option maxHeartbeats 400000 in
theorem Clean_no (p : PoolAt w P B M n F h g c) (f : Int) (hf : f < 0 ∨ (n : Int) ≤ f ∨ (F f.toNat).used = false) :
    Calls Tryz.prog 142 #[.pointer (some ⟨P, 0, none⟩), .int .i64 f] w (OpPost P B M n 2 F h g w) := by
  have HU := Lib.hid (used_no p f hf)
  have HP := Lib.hid p
  clear p hf
  go_enter Tryz.func142, Tryz.ntmps142
  go_wp2_with fail
  refine HU.out.mono ?_
  rintro e w1 ⟨rfl, rfl⟩
  go_wp2
  go_ret
  exact ⟨rfl, ⟨c, HP.out⟩, Off.refl _ _⟩
end
section
variable {w : World} {P B M n : Nat} {F : Nat → Fr} {h : Nat} {g : Int → Option Nat} {c : Nat}
set_option maxRecDepth 100000 in
set_option maxHeartbeats 400000 in
theorem Drop_no (p : PoolAt w P B M n F h g c) (f : Int) (hf : f < 0 ∨ (n : Int) ≤ f ∨ (F f.toNat).used = false) :
    Calls Tryz.prog 108 #[.pointer (some ⟨P, 0, none⟩), .int .i64 f] w (OpPost P B M n 2 F h g w) := by
  have HU := Lib.hid (used_no p f hf)
  have HP := Lib.hid p
  clear p hf
  go_enter Tryz.func108, Tryz.ntmps108
  go_wp2_with fail
  refine HU.out.mono ?_
  rintro e w1 ⟨rfl, rfl⟩
  go_wp2
  go_ret
  exact ⟨rfl, ⟨c, HP.out⟩, Off.refl _ _⟩
end
section
variable {w : World} {P B M n : Nat} {F : Nat → Fr} {h : Nat} {g : Int → Option Nat} {c : Nat}
set_option maxRecDepth 100000 in
set_option maxHeartbeats 400000 in
theorem Drop_not (p : PoolAt w P B M n F h g c) (f : Nat) (hf : f < n) (hu : (F f).used = true) (h1 : 0 < (F f).pins) :
    Calls Tryz.prog 108 #[.pointer (some ⟨P, 0, none⟩), .int .i64 f] w (OpPost P B M n 9 F h g w) := by
  have HU := Lib.hid (used_yes p f hf hu)
  have c4 := (p.fr f hf).c4
  have HP := Lib.hid p
  clear p hu
  go_enter Tryz.func108, Tryz.ntmps108
  go_wp2_with fail
  refine HU.out.mono ?_
  rintro e w1 ⟨rfl, rfl⟩
  go_wp2
  go_ret
  exact ⟨rfl, ⟨c, HP.out⟩, Off.refl _ _⟩
end
section
variable {w : World} {P B M n : Nat} {F : Nat → Fr} {h : Nat} {g : Int → Option Nat} {c : Nat}
set_option maxRecDepth 100000 in
set_option maxHeartbeats 1000000 in
theorem Drop_yes (p : PoolAt w P B M n F h g c) (f : Nat) (hf : f < n) (hu : (F f).used = true) (h1 : ¬ 0 < (F f).pins) :
    Calls Tryz.prog 108 #[.pointer (some ⟨P, 0, none⟩), .int .i64 f] w (OpPost P B M n 0 (putF F f Fr.zero) h (upd g (F f).key none) w) := by
  have HU := Lib.hid (used_yes p f hf hu)
  have c0 := (p.fr f hf).c0
  have c4 := (p.fr f hf).c4
  have l1 := p.l1
  have HP := Lib.hid p
  clear p hu
  go_enter Tryz.func108, Tryz.ntmps108
  go_wp2_with fail
  refine HU.out.mono ?_
  rintro e w1 ⟨rfl, rfl⟩
  go_upto_region 6 with (fail)
  go_still_tail 9, (by kernel_rfl)
  obtain ⟨k1, hk1⟩ := name_key (HP.out.kw f hf)
  obtain ⟨w5, hrun, hm, ho⟩ := HP.out.drew.mp.del (t := 218) nameKeyed Tryz.underlying218 hk1 0
  rw [keyF_del] at hm
  have p5 := HP.out.drew.mapped hm ho
  have o5 : Off (PB P B M) w w5 := (Off.refl _ _).drew.trans (ho.mono fun k e => .inr (.inr e))
  refine wpList_delete_run rfl _ _ _ _ rfl _ _ rfl rfl hrun ?_
  clear hrun hm ho hk1 l1 c0 c4
  obtain ⟨d0, d1, d2, d3, d4⟩ := p5.fr f hf
  have z0 := p5.fz (f * 5)
  have z1 := p5.fz (f * 5 + 1)
  have z2 := p5.fz (f * 5 + 2)
  have z3 := p5.fz (f * 5 + 3)
  have z4 := p5.fz (f * 5 + 4)
  have hB : ∀ o, PB P B M (⟨B, o, none⟩ : Addr).block := fun o => .inr (.inl rfl)
  have HX : Hid (∀ W, W = (((((w5.setCell ⟨B, f * 5, none⟩ (.int .i64 0)).setCell ⟨B, f * 5 + 1, none⟩ (.bool false)).setCell ⟨B, f * 5 + 2, none⟩ (.bool false)).setCell ⟨B, f * 5 + 3, none⟩ (.bool false)).setCell ⟨B, f * 5 + 4, none⟩ (.int .i64 0)) → ∀ e, e = .returned (.int .i64 0) → OpPost P B M n 0 (putF F f Fr.zero) h (upd g (F f).key none) w e W) := by
    rintro W rfl e rfl
    exact ⟨rfl, ⟨_, p5.put (f := Fr.zero) hf (by decide)⟩, ((((o5.setCell (hB _) _).setCell (hB _) _).setCell (hB _) _).setCell (hB _) _).setCell (hB _) _⟩
  clear p5 o5 hB HP HU
  go_wp2
  go_ret
  exact HX.out _ rfl _ rfl
end
section
variable {w : World} {P B M n : Nat} {F : Nat → Fr} {h : Nat} {g : Int → Option Nat} {c : Nat}
def AtPost (f : Fr) (e0 : Int) (w : World) (e : Ending) (w' : World) : Prop := e = .returned (.tuple #[f.val, .int .i64 e0]) ∧ Below w.heap.size w w'
end
section
variable {w : World} {P B M n : Nat} {F : Nat → Fr} {h : Nat} {g : Int → Option Nat} {c : Nat}
set_option maxRecDepth 100000 in
set_option maxHeartbeats 1000000 in
theorem At_yes (p : PoolAt w P B M n F h g c) (f : Nat) (hf : f < n) :
    Calls Tryz.prog 140 #[.pointer (some ⟨P, 0, none⟩), .int .i64 f] w (AtPost (F f) 0 w) := by
  have l0 := p.l0
  have hn := p.most
  obtain ⟨c0, c1, c2, c3, c4⟩ := p.fr f hf
  have ltP := p.ltP
  have ltB := p.ltB
  have q1 : P < w.heap.size + 1 := by omega
  have q2 : B < w.heap.size + 1 := by omega
  clear p
  go_enter Tryz.func140, Tryz.ntmps140
  go_wp2
  refine bodyPost_ret (v := .tuple #[.agg #[.int .i64 (F f).key, .bool (F f).used, .bool (F f).ref, .bool (F f).dirty, .int .i64 (F f).pins], .int .i64 0]) (by simp [results, Tryz.results140, go_sem]) rfl ⟨rfl, ?_⟩
  go_grown
end
section
variable {w : World} {P B M n : Nat} {F : Nat → Fr} {h : Nat} {g : Int → Option Nat} {c : Nat}
set_option maxRecDepth 100000 in
set_option maxHeartbeats 1000000 in
theorem At_no (p : PoolAt w P B M n F h g c) (f : Int) (hf : f < 0 ∨ (n : Int) ≤ f) :
    Calls Tryz.prog 140 #[.pointer (some ⟨P, 0, none⟩), .int .i64 f] w (AtPost Fr.zero 2 w) := by
  have l0 := p.l0
  have hn := p.most
  have ltP := p.ltP
  clear p
  rcases hf with hf | hf
  all_goals
    go_enter Tryz.func140, Tryz.ntmps140
    go_wp2
    all_goals
      refine bodyPost_ret (v := .tuple #[.agg #[.int .i64 0, .bool false, .bool false, .bool false, .int .i64 0], .int .i64 2]) (by simp [results, Tryz.results140, go_sem]) rfl ⟨rfl, ?_⟩
      go_grown
end
end Go.Proofs.YtlhfjaagkgengaaGreat
namespace Go.Proofs.YtlhfjaagkgengaaGreat
open Go.RowKit Go.Maps
set_option linter.unusedVariables false
set_option linter.unusedSimpArgs false

theorem PoolAt.congr {w : World} {P B M n h h' c : Nat} {F F' : Nat → Fr} {g g' : Int → Option Nat} (p : PoolAt w P B M n F h g c) (hF : ∀ i, i < n → F i = F' i) (hh : h = h') (hg : ∀ k, g k = g' k) : PoolAt w P B M n F' h' g' c := by
  subst hh
  have : g = g' := funext hg
  subst this
  exact ⟨p.l0, p.l1, p.l2, p.lz, fun i hi => hF i hi ▸ p.fr i hi, p.fz, p.mp, p.ne, p.pos, p.most, p.hand, fun i hi => hF i hi ▸ p.kw i hi⟩

/-- What a Take answers and leaves, told by what is seen of it. -/
structure TakeIs (n : Nat) (r : TakeR) (frame : Int) (out : Fr) (given : Bool) (e : Int) (F : Nat → Fr) (h : Nat) (g : Int → Option Nat) : Prop where
  frame : r.frame = frame
  out : r.out = out
  given : r.given = given
  e : r.e = e
  F : ∀ i, i < n → r.F i = F i
  h : r.h = h
  g : ∀ k, r.g k = g k

theorem take_free {n h j : Nat} {F F' : Nat → Fr} {g g' : Int → Option Nat} {key : Int} (hg : g key = none) (hj : j < n) (hu : (F j).used = false) (hb : ∀ i, i < j → (F i).used = true)
    (hF : ∀ i, i < n → (if i = j then Fr.new key else F i) = F' i) (hgg : ∀ k, (if k = key then some j else g k) = g' k) : TakeIs n (takeR n F h g key) j Fr.zero false 0 F' h g' := by
  have hf : freeAt F n = j := first_is (q := fun i => !(F i).used) hj (by simp [hu]) (fun i hi => by simp [hb i hi])
  have e : takeR n F h g key = ⟨j, Fr.zero, false, 0, putF F j (Fr.new key), h, upd g key (some j)⟩ := by
    unfold takeR
    rw [hg, hf, if_neg (by simp), if_pos (by omega)]
    rfl
  rw [e]
  exact ⟨rfl, rfl, rfl, rfl, hF, rfl, hgg⟩

theorem take_give {n h r h' : Nat} {F F1 F' : Nat → Fr} {g g' : Int → Option Nat} {key : Int} (hg : g key = none) (hu : ∀ i, i < n → (F i).used = true) (hl : ∃ i, i < n ∧ (F i).pins = 0) (hs : sw n (2 * n + 1) h F = ((r : Int), F1)) (hh : (r + 1) % n = h')
    (hF : ∀ i, i < n → (if i = r then Fr.new key else F1 i) = F' i) (hgg : ∀ k, (if k = key then some r else if k = (F1 r).key then none else g k) = g' k) : TakeIs n (takeR n F h g key) r (F1 r) true 0 F' h' g' := by
  have hf : freeAt F n = -1 := first_none (q := fun i => !(F i).used) (fun i hi => by simp [hu i hi])
  have hlo : loose F n = true := by
    unfold loose
    obtain ⟨i, hi, hp⟩ := hl
    rcases first_spec (fun i => (F i).pins == 0) n with ⟨k1, k2⟩ | ⟨j, k1, k2, k3, k4⟩
    · have := k2 i hi; simp [hp] at this
    · rw [k1]; simp
  have e : takeR n F h g key = ⟨r, F1 r, true, 0, putF F1 r (Fr.new key), (r + 1) % n, upd (upd g (F1 r).key none) key (some r)⟩ := by
    unfold takeR
    rw [hg, hf, if_neg (by simp), if_neg (by omega), if_pos hlo, hs]
    rfl
  rw [e]
  exact ⟨rfl, rfl, rfl, rfl, hF, hh, hgg⟩

/-! ### the takes ahead -/
def aF (k : Nat) : Nat → Fr := fun j => if j < k then Fr.new j else Fr.zero
def aG (k : Nat) : Int → Option Nat := fun x => if 0 ≤ x ∧ x < k then some x.toNat else none
theorem a_step {n k : Nat} (hk : k < n) : TakeIs n (takeR n (aF k) 0 (aG k) k) k Fr.zero false 0 (aF (k + 1)) 0 (aG (k + 1)) := by
  refine take_free (by simp [aG]) hk (by simp [aF, Fr.zero]) (fun i hi => by simp [aF, hi, Fr.new]) (fun i hi => ?_) (fun x => ?_)
  · unfold aF
    by_cases h1 : i = k
    · subst h1; simp
    · rw [if_neg h1]
      by_cases h2 : i < k
      · rw [if_pos h2, if_pos (by omega)]
      · rw [if_neg h2, if_neg (by omega)]
  · unfold aG
    by_cases h1 : x = k
    · subst h1
      rw [if_pos rfl, if_pos (by omega)]
      simp
    · rw [if_neg h1]
      by_cases h2 : 0 ≤ x ∧ x < k
      · rw [if_pos h2, if_pos (by omega)]
      · rw [if_neg h2, if_neg (by omega)]

/-! ### the first that is given up -/
/-- Frames of which those below k have been cleared. -/
def mF (k : Nat) : Nat → Fr := fun j => ⟨j, true, decide (k ≤ j), false, 0⟩
theorem m_clr (k : Nat) : clr (mF k) k = mF (k + 1) := by
  funext j
  unfold clr mF
  by_cases h : j = k
  · subst h; simp
  · rw [if_neg h]; simp only [Fr.mk.injEq, true_and, and_true]; rw [decide_eq_decide]; omega
theorem m_sweep (n d : Nat) (hn : 0 < n) : ∀ m k, k + m = n → 0 < m → sw n (d + m) k (mF k) = sw n d 0 (mF n)
  | 0, k, _, h => by omega
  | m + 1, k, hk, _ => by
    have e : sw n (d + (m + 1)) k (mF k) = sw n (d + m) ((k + 1) % n) (mF (k + 1)) := by
      rw [show d + (m + 1) = (d + m) + 1 by omega, sw_clr (by simp [mF]) (by simp [mF]), m_clr]
    rw [e]
    rcases Nat.eq_zero_or_pos m with h0 | hp
    · subst h0
      have : k + 1 = n := by omega
      rw [this, Nat.mod_self]; rfl
    · rw [Nat.mod_eq_of_lt (by omega)]
      exact m_sweep n d hn m (k + 1) (by omega) hp
theorem sw_congr (n : Nat) (hn : 0 < n) : ∀ d k F F', k < n → (∀ i, i < n → F i = F' i) → (sw n d k F).1 = (sw n d k F').1 ∧ ∀ i, i < n → (sw n d k F).2 i = (sw n d k F').2 i
  | 0, k, F, F', hk, h => ⟨rfl, h⟩
  | d + 1, k, F, F', hk, h => by
    unfold sw
    rw [h k hk]
    split
    · exact sw_congr n hn d _ F F' (Nat.mod_lt _ hn) h
    · split
      · exact sw_congr n hn d _ _ _ (Nat.mod_lt _ hn) (fun i hi => by unfold clr; rw [h i hi])
      · exact ⟨rfl, h⟩
theorem m_first (n : Nat) (hn : 0 < n) : sw n (2 * n + 1) 0 (mF 0) = (0, mF n) := by
  rw [show 2 * n + 1 = (n + 1) + n by omega, m_sweep n (n + 1) hn n 0 (by omega) hn, sw_found (by simp [mF]) (by simp [mF]; omega)]
  rfl

/-- The pool ahead of the i-th of the others. -/
def tF (keep i : Nat) : Nat → Fr := fun j =>
  if j = 0 then Fr.new 100 else if j = keep then ⟨j, true, decide (i ≤ keep + 1), false, 0⟩ else if j < i then Fr.new (200 + j) else ⟨j, true, false, false, 0⟩
def tH (n keep i : Nat) : Nat := if 0 < keep ∧ i = keep + 1 then keep else i % n
def tG (n keep i : Nat) : Int → Option Nat := fun x =>
  if x = 100 then some 0 else if 0 < x ∧ x < n then (if x = keep ∨ (i : Int) ≤ x then some x.toNat else none)
  else if 200 < x ∧ x < 200 + i ∧ x ≠ 200 + keep then some (x - 200).toNat else none

/-- The frames behind the first that is given up, ahead of the touch. -/
def uF : Nat → Fr := fun j => if j = 0 then Fr.new 100 else ⟨j, true, false, false, 0⟩
def uG (n : Nat) : Int → Option Nat := fun x => if x = 100 then some 0 else if 0 < x ∧ x < n then some x.toNat else none
theorem u_step {n : Nat} (h2 : 2 ≤ n) (h64 : n ≤ 64) : ∃ out, TakeIs n (takeR n (aF n) 0 (aG n) 100) 0 out true 0 uF 1 (uG n) := by
  obtain ⟨e1, e2⟩ := sw_congr n (by omega) (2 * n + 1) 0 (aF n) (mF 0) (by omega) (fun i hi => by simp [aF, hi, mF, Fr.new])
  rw [m_first n (by omega)] at e1 e2
  have hs : sw n (2 * n + 1) 0 (aF n) = (((0 : Nat) : Int), (sw n (2 * n + 1) 0 (aF n)).2) := by
    rw [← show (sw n (2 * n + 1) 0 (aF n)).1 = ((0 : Nat) : Int) from e1]
  have h0 := e2 0 (by omega)
  simp only at h0
  refine ⟨_, take_give (r := 0) (by simp [aG]; omega) (fun i hi => by simp [aF, hi, Fr.new]) ⟨0, by omega, by simp [aF, Fr.new, show 0 < n by omega]⟩ hs (by rw [Nat.mod_eq_of_lt (by omega)]) (fun i hi => ?_) (fun x => ?_)⟩
  · unfold uF
    by_cases h : i = 0
    · rw [if_pos h, if_pos h]
    · rw [if_neg h, if_neg h, e2 i hi]
      simp [mF]; omega
  · rw [h0]
    unfold uG aG mF
    simp only
    by_cases h1 : x = 100
    · rw [if_pos h1, if_pos h1]
    · rw [if_neg h1, if_neg h1]
      by_cases h2 : x = ((0 : Nat) : Int)
      · rw [if_pos h2, if_neg (by omega)]
      · rw [if_neg h2]
        by_cases h3 : 0 ≤ x ∧ x < n
        · rw [if_pos h3, if_pos (by omega)]
        · rw [if_neg h3, if_neg (by omega)]
theorem u_first {n keep : Nat} (h2 : 2 ≤ n) (hk : keep < n) : (∀ i, i < n → (if 0 < keep then putF uF keep { uF keep with ref := true, dirty := (uF keep).dirty || false } else uF) i = tF keep 1 i) ∧ 1 = tH n keep 1 ∧ ∀ x, uG n x = tG n keep 1 x := by
  refine ⟨fun i hi => ?_, ?_, fun x => ?_⟩
  · unfold tF uF putF
    by_cases h0 : 0 < keep
    · rw [if_pos h0]
      by_cases h1 : i = keep
      · subst h1
        rw [if_pos rfl, if_neg (by omega), if_neg (by omega), if_pos rfl]
        simp
      · rw [if_neg h1]
        dsimp only
        by_cases h3 : i = 0
        · rw [if_pos h3, if_pos h3]
        · rw [if_neg h3, if_neg h3, if_neg h1, if_neg (by omega)]
    · rw [if_neg h0]
      by_cases h3 : i = 0
      · rw [if_pos h3, if_pos h3]
      · rw [if_neg h3, if_neg h3, if_neg (by omega), if_neg (by omega)]
  · unfold tH
    rw [if_neg (by omega), Nat.mod_eq_of_lt (by omega)]
  · unfold uG tG
    by_cases h1 : x = 100
    · rw [if_pos h1, if_pos h1]
    · rw [if_neg h1, if_neg h1]
      by_cases h3 : 0 < x ∧ x < n
      · rw [if_pos h3, if_pos h3, if_pos (by omega)]
      · rw [if_neg h3, if_neg h3, if_neg (by omega)]

theorem t_skip {n keep : Nat} (hk : keep < n) (h0 : 0 < keep) : (∀ i, i < n → tF keep keep i = tF keep (keep + 1) i) ∧ tH n keep keep = tH n keep (keep + 1) ∧ ∀ x, tG n keep keep x = tG n keep (keep + 1) x := by
  refine ⟨fun i hi => ?_, ?_, fun x => ?_⟩
  · unfold tF
    by_cases h1 : i = 0
    · rw [if_pos h1, if_pos h1]
    · rw [if_neg h1, if_neg h1]
      by_cases h2 : i = keep
      · rw [if_pos h2, if_pos h2]; simp
      · rw [if_neg h2, if_neg h2]
        by_cases h3 : i < keep
        · rw [if_pos h3, if_pos (by omega)]
        · rw [if_neg h3, if_neg (by omega)]
  · unfold tH
    rw [if_neg (by omega), if_pos (by omega), Nat.mod_eq_of_lt hk]
  · unfold tG
    by_cases h1 : x = 100
    · rw [if_pos h1, if_pos h1]
    · rw [if_neg h1, if_neg h1]
      by_cases h3 : 0 < x ∧ x < n
      · rw [if_pos h3, if_pos h3]
        by_cases h4 : x = keep ∨ (keep : Int) ≤ x
        · rw [if_pos h4, if_pos (by omega)]
        · rw [if_neg h4, if_neg (by omega)]
      · rw [if_neg h3, if_neg h3]
        by_cases h5 : 200 < x ∧ x < 200 + (keep : Int) ∧ x ≠ 200 + keep
        · rw [if_pos h5, if_pos (by omega)]
        · rw [if_neg h5, if_neg (by omega)]

theorem t_step {n keep i : Nat} (h2 : 2 ≤ n) (h64 : n ≤ 64) (hk : keep < n) (hi : 0 < i) (hin : i < n) (hne : i ≠ keep) :
    ∃ out : Fr, out.key = i ∧ TakeIs n (takeR n (tF keep i) (tH n keep i) (tG n keep i) (200 + i)) i out true 0 (tF keep (i + 1)) (tH n keep (i + 1)) (tG n keep (i + 1)) := by
  have found : ∀ d F, (F i).used = true → (F i).pins = 0 → (F i).ref = false → sw n (d + 1) i F = ((i : Int), F) := fun d F a b c => sw_found (by simp [a, b]) c
  have hFi : tF keep i i = ⟨i, true, false, false, 0⟩ := by unfold tF; rw [if_neg (by omega), if_neg hne, if_neg (by omega)]
  obtain ⟨F1, hs, hF1⟩ : ∃ F1, sw n (2 * n + 1) (tH n keep i) (tF keep i) = ((i : Int), F1) ∧ ∀ j, F1 j = if 0 < keep ∧ i = keep + 1 ∧ j = keep then ⟨keep, true, false, false, 0⟩ else tF keep i j := by
    by_cases hc : 0 < keep ∧ i = keep + 1
    · refine ⟨clr (tF keep i) keep, ?_, fun j => ?_⟩
      · unfold tH
        have hkk : tF keep i keep = ⟨keep, true, true, false, 0⟩ := by unfold tF; rw [if_neg (by omega), if_pos rfl]; simp; omega
        rw [if_pos hc, sw_clr (by rw [hkk]; rfl) (by rw [hkk]), show (keep + 1) % n = i by rw [← hc.2]; exact Nat.mod_eq_of_lt hin, show 2 * n = (2 * n - 1) + 1 by omega]
        have hci : clr (tF keep i) keep i = ⟨i, true, false, false, 0⟩ := by rw [clr_ne _ hne, hFi]
        exact found _ _ (by rw [hci]) (by rw [hci]) (by rw [hci])
      · unfold clr
        by_cases hj : j = keep
        · rw [if_pos hj, if_pos ⟨hc.1, hc.2, hj⟩, hj]
          unfold tF
          rw [if_neg (by omega), if_pos rfl]
        · rw [if_neg hj, if_neg (by omega)]
    · refine ⟨tF keep i, ?_, fun j => by rw [if_neg (by omega)]⟩
      unfold tH
      rw [if_neg hc, Nat.mod_eq_of_lt hin]
      exact found _ _ (by rw [hFi]) (by rw [hFi]) (by rw [hFi])
  have hF1i : F1 i = ⟨i, true, false, false, 0⟩ := by rw [hF1, if_neg (by omega), hFi]
  refine ⟨F1 i, by rw [hF1i], take_give (r := i) ?_ (fun j hj => ?_) ⟨i, hin, by rw [hFi]⟩ hs ?_ (fun j hj => ?_) (fun x => ?_)⟩
  · unfold tG
    rw [if_neg (by omega), if_neg (by omega), if_neg (by omega)]
  · unfold tF
    split
    · rfl
    · split
      · rfl
      · split <;> rfl
  · unfold tH
    rw [if_neg (by omega)]
  · unfold tF
    by_cases h1 : j = i
    · subst h1
      rw [if_pos rfl, if_neg (by omega), if_neg hne, if_pos (by omega)]
    · rw [if_neg h1, hF1]
      by_cases h3 : j = 0
      · subst h3
        rw [if_neg (by omega), if_pos rfl]
        unfold tF
        rw [if_pos rfl]
      · rw [if_neg h3]
        by_cases h4 : j = keep
        · subst h4
          rw [if_pos rfl]
          by_cases h5 : i = j + 1
          · rw [if_pos ⟨by omega, h5, rfl⟩]; simp; omega
          · rw [if_neg (by omega)]
            unfold tF
            rw [if_neg h3, if_pos rfl]
            simp only [Fr.mk.injEq, true_and, and_true]
            rw [decide_eq_decide]; omega
        · rw [if_neg h4, if_neg (by omega)]
          unfold tF
          rw [if_neg h3, if_neg h4]
          by_cases h5 : j < i
          · rw [if_pos h5, if_pos (by omega)]
          · rw [if_neg h5, if_neg (by omega)]
  · rw [hF1i]
    unfold tG
    simp only
    by_cases h0 : x = 200 + (i : Int)
    · rw [if_pos h0, if_neg (by omega), if_neg (by omega), if_pos (by omega)]
      congr 1; omega
    · rw [if_neg h0]
      by_cases h1 : x = (i : Int)
      · rw [if_pos h1, if_neg (by omega), if_pos (by omega), if_neg (by omega)]
      · rw [if_neg h1]
        by_cases h2 : x = 100
        · rw [if_pos h2, if_pos h2]
        · rw [if_neg h2, if_neg h2]
          by_cases h3 : 0 < x ∧ x < n
          · rw [if_pos h3, if_pos h3]
            by_cases h4 : x = keep ∨ (i : Int) ≤ x
            · rw [if_pos h4, if_pos (by omega)]
            · rw [if_neg h4, if_neg (by omega)]
          · rw [if_neg h3, if_neg h3]
            by_cases h5 : 200 < x ∧ x < 200 + (i : Int) ∧ x ≠ 200 + keep
            · rw [if_pos h5, if_pos (by omega)]
            · rw [if_neg h5, if_neg (by omega)]
end Go.Proofs.YtlhfjaagkgengaaGreat
namespace Go.Proofs.YtlhfjaagkgengaaGreat
open Go.RowKit Go.Maps
set_option linter.unusedVariables false
set_option linter.unusedSimpArgs false

/-- The map tells just which frames are used by which keys. -/
structure Good (n : Nat) (F : Nat → Fr) (g : Int → Option Nat) : Prop where
  a : ∀ j, j < n → (F j).used = true → g (F j).key = some j
  b : ∀ k j, g k = some j → j < n ∧ (F j).used = true ∧ (F j).key = k

theorem Good.put {n r : Nat} {F F1 : Nat → Fr} {g : Int → Option Nat} {key : Int} (G : Good n F g) (hc : Cleared F F1) (hr : r < n) (hg : g key = none) :
    Good n (putF F1 r (Fr.new key)) (upd (if (F1 r).used then upd g (F1 r).key none else g) key (some r)) := by
  have hother : ∀ k j, (if (F1 r).used then upd g (F1 r).key none else g) k = some j → j ≠ r ∧ g k = some j := by
    intro k j h
    cases hu : (F1 r).used
    · rw [hu] at h
      simp only [Bool.false_eq_true, if_false] at h
      refine ⟨fun e => ?_, h⟩
      have := (G.b k j h).2.1
      rw [e, ← (hc r).2.1, hu] at this
      cases this
    · rw [hu] at h
      simp only [if_true] at h
      unfold upd at h
      split at h
      · cases h
      · rename_i hne
        refine ⟨fun e => hne ?_, h⟩
        rw [← (G.b k j h).2.2, e, (hc r).1]
  refine ⟨fun j hj hu => ?_, fun k j h => ?_⟩
  · unfold putF at hu ⊢
    by_cases h1 : j = r
    · rw [if_pos h1]; simp [upd, Fr.new, h1]
    · rw [if_neg h1] at hu ⊢
      have hFj : (F j).used = true := by rw [← (hc j).2.1]; exact hu
      have hgj := G.a j hj hFj
      rw [(hc j).1]
      have hne : (F j).key ≠ key := fun e => by rw [e, hg] at hgj; cases hgj
      unfold upd
      rw [if_neg hne]
      cases hu2 : (F1 r).used
      · simpa using hgj
      · simp only [if_true]
        rw [if_neg, hgj]
        intro e
        have hr2 := G.a r hr (by rw [← (hc r).2.1]; exact hu2)
        rw [← (hc r).1, ← e, hgj] at hr2
        exact h1 (Option.some.inj hr2)
  · unfold upd at h
    by_cases h1 : k = key
    · rw [if_pos h1] at h
      cases h
      unfold putF
      rw [if_pos rfl]
      exact ⟨hr, rfl, h1.symm⟩
    · rw [if_neg h1] at h
      obtain ⟨h2, h3⟩ := hother k j h
      obtain ⟨h4, h5, h6⟩ := G.b k j h3
      unfold putF
      rw [if_neg h2]
      exact ⟨h4, by rw [(hc j).2.1]; exact h5, by rw [(hc j).1]; exact h6⟩

/-- Is frame j pinned? -/
structure PinInv (n : Nat) (q : Nat → Bool) (F : Nat → Fr) (g : Int → Option Nat) (i : Nat) : Prop where
  good : Good n F g
  used : ∀ j, j < n → (F j).used = true
  yes : ∀ j, j < n → q j = true → (F j).key = j ∧ (F j).pins = 1
  no : ∀ j, j < n → q j = false → (F j).pins = 0 ∧ ((F j).key < n ∨ 1000 ≤ (F j).key) ∧ (F j).key < 1000 + i

theorem pin_none {n i : Nat} {q : Nat → Bool} {F : Nat → Fr} {g : Int → Option Nat} (I : PinInv n q F g i) (hn : n ≤ 40) : g (1000 + i) = none := by
  cases hg : g (1000 + i) with
  | none => rfl
  | some j =>
    obtain ⟨h1, h2, h3⟩ := I.good.b _ _ hg
    cases hq : q j
    · have := (I.no j h1 hq).2.2; omega
    · have := (I.yes j h1 hq).1; omega

theorem pin_full {n i h : Nat} {q : Nat → Bool} {F : Nat → Fr} {g : Int → Option Nat} (I : PinInv n q F g i) (hn : n ≤ 40) (hq : ∀ j, j < n → q j = true) :
    TakeIs n (takeR n F h g (1000 + i)) 0 Fr.zero false 10 F h g ∧ PinInv n q F g (i + 1) := by
  have hf : freeAt F n = -1 := first_none (q := fun i => !(F i).used) (fun j hj => by simp [I.used j hj])
  have hlo : loose F n = false := by
    unfold loose
    rw [first_none (q := fun i => (F i).pins == 0) (fun j hj => by simp [(I.yes j hj (hq j hj)).2])]
    rfl
  have e : takeR n F h g (1000 + i) = ⟨0, Fr.zero, false, 10, F, h, g⟩ := by
    unfold takeR
    rw [pin_none I hn, hf, hlo]
    simp
  rw [e]
  refine ⟨⟨rfl, rfl, rfl, rfl, fun _ _ => rfl, rfl, fun _ => rfl⟩, ⟨I.good, I.used, I.yes, fun j hj h => ?_⟩⟩
  rw [hq j hj] at h; cases h

theorem pin_give {n i h j0 : Nat} {q : Nat → Bool} {F : Nat → Fr} {g : Int → Option Nat} (I : PinInv n q F g i) (hn : n ≤ 40) (hh : h < n) (hj0 : j0 < n) (hq0 : q j0 = false) :
    ∃ (r : Nat) (out : Fr) (F' : Nat → Fr) (g' : Int → Option Nat), r < n ∧ out.pins = 0 ∧ TakeIs n (takeR n F h g (1000 + i)) r out true 0 F' ((r + 1) % n) g' ∧ PinInv n q F' g' (i + 1) := by
  have hc0 : (F j0).cand = true := by simp [Fr.cand, I.used j0 hj0, (I.no j0 hj0 hq0).1]
  obtain ⟨r, s1, s2, s3, s4⟩ := sw_some hh hj0 hc0
  have hcl := (sw_form n (by omega) (2 * n + 1) h F hh).1
  obtain ⟨F1, hF1⟩ : ∃ F1, F1 = (sw n (2 * n + 1) h F).2 := ⟨_, rfl⟩
  rw [← hF1] at s3 s4 hcl
  have hs : sw n (2 * n + 1) h F = ((r : Int), F1) := by rw [hF1, ← s1]
  have hqr : q r = false := by
    cases hq : q r
    · rfl
    · have hp := (I.yes r s2 hq).2
      rw [← (hcl r).2.2.2.1] at hp
      simp [Fr.cand, hp] at s3
  have hg := pin_none I hn
  have hu1 : (F1 r).used = true := by rw [(hcl r).2.1]; exact I.used r s2
  have G := Good.put I.good hcl s2 hg
  rw [hu1] at G
  simp only [if_true] at G
  refine ⟨r, F1 r, putF F1 r (Fr.new (1000 + i)), upd (upd g (F1 r).key none) (1000 + i) (some r), s2, by rw [(hcl r).2.2.2.1]; exact (I.no r s2 hqr).1,
    take_give hg I.used ⟨j0, hj0, (I.no j0 hj0 hq0).1⟩ hs rfl (fun j hj => rfl) (fun x => rfl), ⟨G, fun j hj => ?_, fun j hj hq => ?_, fun j hj hq => ?_⟩⟩
  · unfold putF
    split
    · rfl
    · rw [(hcl j).2.1]; exact I.used j hj
  · unfold putF
    rw [if_neg (fun e => by rw [e, hqr] at hq; cases hq), (hcl j).1, (hcl j).2.2.2.1]
    exact I.yes j hj hq
  · unfold putF
    split
    · refine ⟨rfl, .inr ?_, ?_⟩
      · show (1000 : Int) ≤ 1000 + i; omega
      · show (1000 : Int) + i < 1000 + ((i + 1 : Nat) : Int); omega
    · rw [(hcl j).1, (hcl j).2.2.2.1]
      have := I.no j hj hq
      exact ⟨this.1, this.2.1, by omega⟩

/-- The pool while it is filled. -/
def bF (q : Nat → Bool) (k : Nat) : Nat → Fr := fun j => if j < k then ⟨j, true, true, false, if q j then 1 else 0⟩ else Fr.zero
theorem b_step {n k : Nat} {q : Nat → Bool} (hk : k < n) : TakeIs n (takeR n (bF q k) 0 (aG k) k) k Fr.zero false 0 (putF (bF q k) k (Fr.new k)) 0 (aG (k + 1)) := by
  refine take_free (by simp [aG]) hk (by simp [bF, Fr.zero]) (fun i hi => by simp [bF, hi]) (fun i hi => rfl) (fun x => ?_)
  unfold aG
  by_cases h1 : x = k
  · subst h1
    rw [if_pos rfl, if_pos (by omega)]
    simp
  · rw [if_neg h1]
    by_cases h2 : 0 ≤ x ∧ x < k
    · rw [if_pos h2, if_pos (by omega)]
    · rw [if_neg h2, if_neg (by omega)]
theorem b_no {q : Nat → Bool} {k : Nat} (h : q k = false) (i : Nat) : putF (bF q k) k (Fr.new k) i = bF q (k + 1) i := by
  unfold putF bF Fr.new
  by_cases h1 : i = k
  · subst h1; simp [h]
  · rw [if_neg h1]
    by_cases h2 : i < k
    · simp [h2, show i < k + 1 by omega]
    · simp [h2, show ¬ i < k + 1 by omega]
theorem b_yes {q : Nat → Bool} {k : Nat} (h : q k = true) (i : Nat) : putF (putF (bF q k) k (Fr.new k)) k { putF (bF q k) k (Fr.new k) k with pins := (putF (bF q k) k (Fr.new k) k).pins + 1 } i = bF q (k + 1) i := by
  rw [put_put]
  unfold putF bF Fr.new
  by_cases h1 : i = k
  · subst h1; simp [h]
  · rw [if_neg h1]
    by_cases h2 : i < k
    · simp [h2, show i < k + 1 by omega]
    · simp [h2, show ¬ i < k + 1 by omega]
/-- How many of the first k are not pinned. -/
def frees (q : Nat → Bool) : Nat → Nat
  | 0 => 0
  | k + 1 => frees q k + if q k then 0 else 1
theorem frees_le (q : Nat → Bool) (k : Nat) : frees q k ≤ k := by
  induction k with
  | zero => simp [frees]
  | succ k ih => unfold frees; split <;> omega
theorem frees_zero {q : Nat → Bool} {k : Nat} (h : frees q k = 0) : ∀ j, j < k → q j = true := by
  induction k with
  | zero => intro j hj; omega
  | succ k ih =>
    unfold frees at h
    intro j hj
    cases hq : q k
    · rw [hq] at h; simp at h
    · rw [hq] at h
      rcases Nat.lt_or_ge j k with h1 | h1
      · exact ih (by simpa using h) j h1
      · have : j = k := by omega
        subst this; exact hq
theorem frees_pos {q : Nat → Bool} {k : Nat} (h : 0 < frees q k) : ∃ j, j < k ∧ q j = false := by
  induction k with
  | zero => simp [frees] at h
  | succ k ih =>
    cases hq : q k
    · exact ⟨k, by omega, hq⟩
    · unfold frees at h
      rw [hq] at h
      obtain ⟨j, h1, h2⟩ := ih (by simpa using h)
      exact ⟨j, by omega, h2⟩
theorem b_inv {n : Nat} {q : Nat → Bool} (hn : n ≤ 40) : PinInv n q (bF q n) (aG n) 0 := by
  refine ⟨⟨fun j hj _ => ?_, fun k j h => ?_⟩, fun j hj => by simp [bF, hj], fun j hj hq => by simp [bF, hj, hq], fun j hj hq => ⟨by simp [bF, hj, hq], .inl ?_, ?_⟩⟩
  · simp [bF, hj, aG]
  · unfold aG at h
    split at h
    · rename_i hx
      cases h
      have : k.toNat < n := by omega
      refine ⟨this, by simp [bF, this], ?_⟩
      simp [bF, this]; omega
    · cases h
  · simp [bF, hj]
  · simp [bF, hj]; omega
theorem inv_used {n i : Nat} {q : Nat → Bool} {F : Nat → Fr} {g : Int → Option Nat} (I : PinInv n q F g i) : ∀ k, k ≤ n → cntF qUsed F k = k ∧ cntF qPinned F k + frees q k = k := by
  intro k
  induction k with
  | zero => intro _; exact ⟨rfl, rfl⟩
  | succ k ih =>
    intro hk
    obtain ⟨h1, h2⟩ := ih (by omega)
    refine ⟨?_, ?_⟩
    · rw [cntF_yes (q := qUsed) (I.used k (by omega)), h1]
    · unfold frees
      cases hq : q k
      · rw [cntF_no (q := qPinned) (by simp [qPinned, (I.no k (by omega) hq).1])]; simp; omega
      · rw [cntF_yes (q := qPinned) (by simp [qPinned, (I.yes k (by omega) hq).2])]; simp; omega
end Go.Proofs.YtlhfjaagkgengaaGreat
namespace Go.Proofs.YtlhfjaagkgengaaGreat
open Go.RowKit Go.Maps
set_option linter.unusedVariables false
set_option linter.unusedSimpArgs false

structure KInv (n : Nat) (F : Nat → Fr) (g : Int → Option Nat) : Prop where
  good : Good n F g
  pins : ∀ j, j < n → 0 ≤ (F j).pins ∧ (F j).pins ≤ 1048576

theorem cntF_congr {q : Fr → Bool} {F F' : Nat → Fr} : ∀ {k : Nat}, (∀ j, j < k → q (F j) = q (F' j)) → cntF q F k = cntF q F' k
  | 0, _ => rfl
  | k + 1, h => by
    unfold cntF
    rw [cntF_congr (fun j hj => h j (by omega)), h k (by omega)]
theorem cntF_out {q : Fr → Bool} {F : Nat → Fr} {f : Fr} {k j : Nat} (hj : k ≤ j) : cntF q (putF F j f) k = cntF q F k :=
  cntF_congr fun i hi => by unfold putF; rw [if_neg (by omega)]
theorem cntF_put {q : Fr → Bool} {F : Nat → Fr} {f : Fr} {j : Nat} : ∀ {k : Nat}, j < k → cntF q (putF F j f) k + (q (F j)).toNat = cntF q F k + (q f).toNat
  | 0, h => by omega
  | k + 1, h => by
    unfold cntF
    rcases Nat.lt_or_ge j k with h1 | h1
    · have := cntF_put (q := q) (F := F) (f := f) h1
      have e : putF F j f k = F k := by unfold putF; rw [if_neg (by omega)]
      rw [e]
      omega
    · have : j = k := by omega
      subst this
      rw [cntF_out (Nat.le_refl _)]
      have e : putF F j f j = f := by unfold putF; rw [if_pos rfl]
      rw [e]
      cases q f <;> cases q (F j) <;> simp

theorem Good.same {n : Nat} {F F' : Nat → Fr} {g : Int → Option Nat} (G : Good n F g) (h : ∀ j, j < n → (F' j).key = (F j).key ∧ (F' j).used = (F j).used) : Good n F' g :=
  ⟨fun j hj hu => by rw [(h j hj).1]; exact G.a j hj (by rw [← (h j hj).2]; exact hu), fun k j hg => by
    obtain ⟨h1, h2, h3⟩ := G.b k j hg
    exact ⟨h1, by rw [(h j h1).2]; exact h2, by rw [(h j h1).1]; exact h3⟩⟩
theorem Good.drop {n f : Nat} {F : Nat → Fr} {g : Int → Option Nat} (G : Good n F g) (hf : f < n) (hu : (F f).used = true) : Good n (putF F f Fr.zero) (upd g (F f).key none) := by
  refine ⟨fun j hj h => ?_, fun k j h => ?_⟩
  · unfold putF at h ⊢
    by_cases h1 : j = f
    · rw [if_pos h1] at h; cases h
    · rw [if_neg h1] at h ⊢
      unfold upd
      rw [if_neg, G.a j hj h]
      intro e
      have h2 := G.a j hj h
      rw [e, G.a f hf hu] at h2
      exact h1 (Option.some.inj h2).symm
  · unfold upd at h
    split at h
    · cases h
    · rename_i hne
      obtain ⟨h1, h2, h3⟩ := G.b k j h
      have hjf : j ≠ f := fun e => hne (by rw [← h3, e])
      unfold putF
      rw [if_neg hjf]
      exact ⟨h1, h2, h3⟩

/-- What Take does. -/
inductive KT (n : Nat) (F : Nat → Fr) (h : Nat) (g : Int → Option Nat) (key : Int) : Prop
  | used (hg : (g key).isSome = true) (ht : TakeIs n (takeR n F h g key) 0 Fr.zero false 3 F h g)
  | free (j : Nat) (hg : g key = none) (hj : j < n) (hno : ∀ k, g k ≠ some j) (ht : TakeIs n (takeR n F h g key) j Fr.zero false 0 (putF F j (Fr.new key)) h (upd g key (some j)))
      (hi : KInv n (putF F j (Fr.new key)) (upd g key (some j))) (hc : cntF qUsed (putF F j (Fr.new key)) n = cntF qUsed F n + 1)
  | full (hg : g key = none) (ht : TakeIs n (takeR n F h g key) 0 Fr.zero false 10 F h g)
  | give (r : Nat) (out : Fr) (F' : Nat → Fr) (h' : Nat) (hg : g key = none) (hr : r < n) (ho : g out.key = some r) (hp : out.pins = 0) (hu : out.used = true) (hf : out.ref = false)
      (hkey : ∃ j, j < n ∧ out.key = (F j).key) (hno : ∀ k, upd g out.key none k ≠ some r) (ht : TakeIs n (takeR n F h g key) r out true 0 F' h' (upd (upd g out.key none) key (some r)))
      (hi : KInv n F' (upd (upd g out.key none) key (some r))) (hc : cntF qUsed F' n = cntF qUsed F n)

theorem kt {n h : Nat} {F : Nat → Fr} {g : Int → Option Nat} {key : Int} (I : KInv n F g) (hh : h < n) : KT n F h g key := by
  cases hg0 : g key with
  | some x =>
    refine KT.used (by rw [hg0]; rfl) ?_
    have e : takeR n F h g key = ⟨0, Fr.zero, false, 3, F, h, g⟩ := by unfold takeR; rw [hg0]; rfl
    rw [e]
    exact ⟨rfl, rfl, rfl, rfl, fun _ _ => rfl, rfl, fun _ => rfl⟩
  | none =>
    rcases first_spec (fun i => !(F i).used) n with ⟨h1, h2⟩ | ⟨j, h1, h2, h3, h4⟩
    · have hu : ∀ i, i < n → (F i).used = true := fun i hi => by simpa using h2 i hi
      cases hl : loose F n
      · refine KT.full hg0 ?_
        have e : takeR n F h g key = ⟨0, Fr.zero, false, 10, F, h, g⟩ := by
          unfold takeR
          rw [hg0, show freeAt F n = -1 from h1, hl]; simp
        rw [e]
        exact ⟨rfl, rfl, rfl, rfl, fun _ _ => rfl, rfl, fun _ => rfl⟩
      · have hc : ∃ i, i < n ∧ (F i).pins = 0 := by
          unfold loose at hl
          rcases first_spec (fun i => (F i).pins == 0) n with ⟨k1, k2⟩ | ⟨j, k1, k2, k3, k4⟩
          · rw [k1] at hl; cases hl
          · exact ⟨j, k2, by simpa using k3⟩
        obtain ⟨i, hi, hpi⟩ := hc
        obtain ⟨r, s1, s2, s3, s4⟩ := sw_some hh hi (show (F i).cand = true by simp [Fr.cand, hu i hi, hpi])
        have hcl := (sw_form n (by omega) (2 * n + 1) h F hh).1
        obtain ⟨F1, hF1⟩ : ∃ F1, F1 = (sw n (2 * n + 1) h F).2 := ⟨_, rfl⟩
        rw [← hF1] at s3 s4 hcl
        have hs : sw n (2 * n + 1) h F = ((r : Int), F1) := by rw [hF1, ← s1]
        have hu1 : (F1 r).used = true := by rw [(hcl r).2.1]; exact hu r s2
        have G := Good.put I.good hcl s2 hg0
        rw [hu1] at G
        simp only [if_true] at G
        have hor : g (F1 r).key = some r := by rw [(hcl r).1]; exact I.good.a r s2 (hu r s2)
        have hpin := I.pins r s2
        rw [← (hcl r).2.2.2.1] at hpin
        have hp0 : (F1 r).pins = 0 := by
          simp [Fr.cand, hu1] at s3
          omega
        refine KT.give r (F1 r) (putF F1 r (Fr.new key)) _ hg0 s2 hor hp0 hu1 s4 ⟨r, s2, (hcl r).1⟩ (fun k he => ?_) (take_give hg0 hu ⟨i, hi, hpi⟩ hs rfl (fun j hj => rfl) (fun x => rfl)) ⟨G, fun j hj => ?_⟩ ?_
        · unfold upd at he
          split at he
          · cases he
          · rename_i hne
            exact hne (by rw [(hcl r).1, ← (I.good.b k r he).2.2])
        · unfold putF
          split
          · simp [Fr.new]
          · rw [(hcl j).2.2.2.1]; exact I.pins j hj
        · have e1 := cntF_put (q := qUsed) (F := F1) (f := Fr.new key) s2
          have e2 : cntF qUsed F1 n = cntF qUsed F n := cntF_congr fun j _ => (hcl j).2.1
          have e3 : qUsed (F1 r) = true := hu1
          have e4 : qUsed (Fr.new key) = true := rfl
          rw [e3, e4] at e1
          omega
    · have hju : (F j).used = false := by simpa using h3
      have hno : ∀ k, g k ≠ some j := fun k he => by have := (I.good.b k j he).2.1; rw [hju] at this; cases this
      have G := Good.put I.good (Cleared.refl F) h2 hg0
      rw [hju] at G
      simp only [Bool.false_eq_true, if_false] at G
      refine KT.free j hg0 h2 hno (take_free hg0 h2 hju (fun i hi => by simpa using h4 i hi) (fun _ _ => rfl) (fun _ => rfl)) ⟨G, fun i hi => ?_⟩ ?_
      · unfold putF
        split
        · simp [Fr.new]
        · exact I.pins i hi
      · have e1 := cntF_put (q := qUsed) (F := F) (f := Fr.new key) h2
        have e3 : qUsed (F j) = false := hju
        have e4 : qUsed (Fr.new key) = true := rfl
        rw [e3, e4] at e1
        simpa using e1
end Go.Proofs.YtlhfjaagkgengaaGreat
namespace Go.Proofs.YtlhfjaagkgengaaGreat
open Go.RowKit Go.Maps
set_option linter.unusedVariables false
set_option linter.unusedSimpArgs false

/-- Is there one among the first k that may be given up? -/
def anyC (F : Nat → Fr) : Nat → Bool
  | 0 => false
  | k + 1 => anyC F k || ((F k).used && (F k).pins == 0)
theorem anyC_iff (F : Nat → Fr) (k : Nat) : anyC F k = true ↔ ∃ i, i < k ∧ (F i).used = true ∧ (F i).pins = 0 := by
  induction k with
  | zero => simp [anyC]
  | succ k ih =>
    unfold anyC
    rw [Bool.or_eq_true, ih]
    constructor
    · rintro (⟨i, h1, h2⟩ | h)
      · exact ⟨i, by omega, h2⟩
      · simp at h
        exact ⟨k, by omega, h⟩
    · rintro ⟨i, h1, h2, h3⟩
      rcases Nat.lt_or_ge i k with h | h
      · exact .inl ⟨i, h, h2, h3⟩
      · have : i = k := by omega
        subst this
        simp [h2, h3]
def Fr.cells (f : Fr) : List Value := [.int .i64 f.key, .bool f.used, .bool f.ref, .bool f.dirty, .int .i64 f.pins]
/-- The cells of the first t frames, one behind the other. -/
def rowF (F : Nat → Fr) : Nat → List Value
  | 0 => []
  | t + 1 => rowF F t ++ (F t).cells
theorem rowF_len (F : Nat → Fr) (t : Nat) : (rowF F t).length = t * 5 := by
  induction t with
  | zero => rfl
  | succ t ih => simp [rowF, ih, Fr.cells]; omega
theorem rowF_at (F : Nat → Fr) (t k r : Nat) (hk : k < t) (hr : r < 5) : (rowF F t)[k * 5 + r]? = (F k).cells[r]? := by
  induction t with
  | zero => omega
  | succ t ih =>
    unfold rowF
    rcases Nat.lt_or_ge k t with h | h
    · rw [List.getElem?_append_left (by rw [rowF_len]; omega), ih h]
    · have : k = t := by omega
      subst this
      rw [List.getElem?_append_right (by rw [rowF_len]; omega), rowF_len]
      congr 1
      omega
theorem rowF_one (F : Nat → Fr) (t : Nat) : ∀ u ∈ rowF F t, u.oneCell' = true := by
  induction t with
  | zero => simp [rowF]
  | succ t ih =>
    intro u hu
    unfold rowF at hu
    rcases List.mem_append.1 hu with h | h
    · exact ih u h
    · simp [Fr.cells] at h
      rcases h with rfl | rfl | rfl | rfl | rfl <;> rfl
theorem FrS.row {w : World} {B n : Nat} {F : Nat → Fr} (h : FrS w B n F) : ∀ j u, (rowF F n)[j]? = some u → w.cell? ((⟨B, 0, none⟩ : Addr).add j) = some u := by
  intro j u hu
  have hj : j < n * 5 := by
    have := (List.getElem?_eq_some_iff.1 hu).1
    rwa [rowF_len] at this
  have e : (⟨B, 0, none⟩ : Addr).add j = ⟨B, j, none⟩ := by
    unfold Addr.add
    split
    · rename_i h; rw [h]
    · simp
  have hq : j / 5 * 5 + j % 5 = j := by omega
  have hk : j / 5 < n := by omega
  have hf := h (j / 5) hk
  have hr := rowF_at F n (j / 5) (j % 5) hk (by omega)
  rw [hq, hu] at hr
  rw [e]
  have h5 : j % 5 = 0 ∨ j % 5 = 1 ∨ j % 5 = 2 ∨ j % 5 = 3 ∨ j % 5 = 4 := by omega
  rcases h5 with h5 | h5 | h5 | h5 | h5
  · have hc := hf.c0
    rw [h5] at hr hq
    rw [show j / 5 * 5 = j by omega] at hc
    rw [hc, hr]; rfl
  · have hc := hf.c1
    rw [h5] at hr hq
    rw [hq] at hc
    rw [hc, hr]; rfl
  · have hc := hf.c2
    rw [h5] at hr hq
    rw [hq] at hc
    rw [hc, hr]; rfl
  · have hc := hf.c3
    rw [h5] at hr hq
    rw [hq] at hc
    rw [hc, hr]; rfl
  · have hc := hf.c4
    rw [h5] at hr hq
    rw [hq] at hc
    rw [hc, hr]; rfl
theorem frS_own {w : World} {base e g n cap : Nat} {F : Nat → Fr} (h : w.ownsRow base e 5 (.slice (some ⟨g, 0, none⟩) n cap) n (rowF F n)) : FrS w g n F ∧ ∀ j, w.frozen? ⟨g, j, none⟩ = false := by
  refine ⟨fun i hi => ?_, fun j => h.frozenAt j⟩
  have e : ∀ r, r < 5 → w.cell? ⟨g, i * 5 + r, none⟩ = (F i).cells[r]? := fun r hr => by
    rw [h.cellAt (i * 5 + r) (by omega), rowF_at F n i r hi hr]
  exact ⟨e 0 (by omega), e 1 (by omega), e 2 (by omega), e 3 (by omega), e 4 (by omega)⟩
def ClonePost (n : Nat) (F : Nat → Fr) (w : World) (e : Ending) (w' : World) : Prop :=
  ∃ g cap, e = .returned (.slice (some ⟨g, 0, none⟩) n cap) ∧ FrS w' g n F ∧ (∀ j, w'.frozen? ⟨g, j, none⟩ = false) ∧ w.heap.size ≤ g ∧ Below w.heap.size w w'
set_option maxRecDepth 100000 in
set_option maxHeartbeats 1000000 in
theorem Clone_any (w : World) (B n K : Nat) (F : Nat → Fr) (hp : 0 < n) (hn : n ≤ 4096) (hF : FrS w B n F) :
    Calls Tryz.prog 139 #[.slice (some ⟨B, 0, none⟩) n K] w (ClonePost n F w) := by
  obtain ⟨i0, hi, hz0, hz1, hz2⟩ := info_parts frame_info
  have HF := Lib.hid hF
  have hB := lt_of_cell (hF 0 hp).c0
  clear hF
  have hnil := Lib.run_eql_slice_nil (P := Tryz.prog) w 217 214 (some ⟨B, 0, none⟩) n K 0 0 Tryz.underlying217
  go_enter Tryz.func139, Tryz.ntmps139
  go_wp2_with (at_builtin; go_must (refine wpList_append_lies _ rfl (.tmp 5) (.tmp 6) 217 rfl w.heap.size 214 i0 _ 5 24 Tryz.underlying217 hi hz0 hz1 hz2 rfl (by omega) _ 0 [] rfl (World.ownsRow_made w #[] 0 (Nat.le_refl _) (by unfold maxLen; omega) (by simp)) ⟨B, 0, none⟩ n K (rowF F n) rfl (rowF_len F n) (FrS.row (fun i hi => (HF.out i hi).up ((Below.refl _ _).alloc (Nat.le_refl _) _))) (rowF_one F n) hp (by unfold maxLen; omega) (by omega) (by simp) (w.heap.size + 1) (by simp) ?_); intro gg cap w1 hown hgrow hat hlt)
  simp only [List.nil_append, Nat.zero_add] at hown
  obtain ⟨f1, f2⟩ := frS_own hown
  have HX : Hid (ClonePost n F w (.returned (.slice (some ⟨gg, 0, none⟩) n cap)) w1) := by
    refine ⟨gg, cap, rfl, f1, f2, (hown.lt gg rfl).1, Below.grown ((Below.refl _ _).alloc (Nat.le_refl _) _) hgrow (by simp) fun k hk => ?_⟩
    have h1 : some w.heap.size = some k := hk
    have h2 := Option.some.inj h1
    omega
  clear hown hgrow hat hlt f1 f2
  go_wp2
  go_ret
  exact HX.out
theorem vic_cases {n h : Nat} {F : Nat → Fr} {g : Int → Option Nat} (I : KInv n F g) (hh : h < n) :
    (anyC F n = false ∧ (sw n (2 * n + 1) h F).1 = -1) ∨ ∃ r : Nat, anyC F n = true ∧ r < n ∧ sw n (2 * n + 1) h F = ((r : Int), (sw n (2 * n + 1) h F).2) := by
  cases hc : anyC F n
  · refine .inl ⟨rfl, ?_⟩
    obtain ⟨h1, h2⟩ := sw_form n (by omega) (2 * n + 1) h F hh
    rcases h2 with h2 | ⟨r, h2, h3, h4, h5⟩
    · exact h2
    · exfalso
      rw [h1.cand r] at h4
      have hp := I.pins r h3
      simp [Fr.cand] at h4
      have : anyC F n = true := (anyC_iff F n).2 ⟨r, h3, h4.1, by omega⟩
      rw [hc] at this
      cases this
  · obtain ⟨i, h1, h2, h3⟩ := (anyC_iff F n).1 hc
    obtain ⟨r, k1, k2, k3, k4⟩ := sw_some hh h1 (show (F i).cand = true by simp [Fr.cand, h2, h3])
    exact .inr ⟨r, rfl, k2, by rw [← k1]⟩
def vicV (i : Int) : Value := .tuple #[.int .i64 (if 0 ≤ i then i else 0), .bool (decide (0 ≤ i))]
def VPost (i : Int) (w : World) (e : Ending) (w' : World) : Prop := e = .returned (vicV i) ∧ Below w.heap.size w w'
section
variable {w : World} {P B M n K : Nat} {F : Nat → Fr} {h : Nat} {g : Int → Option Nat} {c : Nat}
set_option maxRecDepth 100000 in
set_option maxHeartbeats 4000000 in
theorem Victim_any (p : PoolAt w P B M n F h g c) (I : KInv n F g) :
    Calls Tryz.prog 90 #[.pointer (some ⟨P, 0, none⟩)] w (VPost (sw n (2 * n + 1) h F).1 w) := by
  have l0 := p.l0
  have l2 := p.l2
  have hn := p.most
  have hpos := p.pos
  have hh := p.hand
  have ltP := p.ltP
  have HV := Lib.hid (vic_cases I p.hand)
  have HC := Lib.hid (Clone_any w.drew B n n F p.pos p.most p.drew.fr)
  clear p I
  go_enter Tryz.func90, Tryz.ntmps90
  go_wp2
  go_region_held3 (fun w' => w'.cell? ⟨P, 0, none⟩ = some (.slice (some ⟨B, 0, none⟩) n n) ∧ w'.cell? ⟨P, 2, none⟩ = some (.int .i64 h))
    (first | exact ⟨K0, K1⟩ | go_keep)
    (first | (go_at_call 139; refine HC.out.mono ?_; rintro e w2 ⟨gg, cap, rfl, hfr, hfz, hge, hb⟩; have K0 := (hb.cell (p := ⟨P, 0, none⟩) ltP).trans l0; have K1 := (hb.cell (p := ⟨P, 2, none⟩) ltP).trans l2; have HFR := Lib.hid hfr; have HFZ := Lib.hid hfz; have HB := Lib.hid hb; clear hfr hfz hb) | (go_at_call 138; refine (sweep_any w2 gg n h F hn hpos hh HFR.out HFZ.out).mono ?_; rintro e w3 ⟨rfl, _, _, ho⟩; have K0 := (ho.cell (p := ⟨P, 0, none⟩) (lt_of_cell K0) (by show ¬ P = gg; simp at hge; omega)).trans K0; have K1 := (ho.cell (p := ⟨P, 2, none⟩) (lt_of_cell K1) (by show ¬ P = gg; simp at hge; omega)).trans K1; have HO := Lib.hid ho; clear ho))
  have HBB : Hid (Below w.heap.size w w3) := ((Below.refl _ _).drew.trans HB.out).trans (HO.out.below (fun k e => e ▸ hge) HB.out.size)
  clear HC HB HO HFR HFZ
  rcases HV.out with ⟨_, hv⟩ | ⟨r, _, hr, hv⟩
  · rw [hv]
    have HW := Lib.hid hv
    clear HV hv
    go_wp2
    go_ret2
    exact ⟨by rw [HW.out]; rfl, HBB.out⟩
  · have hv1 : (sw n (2 * n + 1) h F).1 = (r : Int) := by rw [hv]
    rw [hv1]
    have HW := Lib.hid hv1
    clear HV hv hv1
    go_wp2
    go_ret2
    exact ⟨by rw [HW.out]; unfold vicV; simp, HBB.out⟩
end
end Go.Proofs.YtlhfjaagkgengaaGreat
