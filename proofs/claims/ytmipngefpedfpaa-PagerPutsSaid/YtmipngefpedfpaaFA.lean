/- A pool of frames in memory; Find. -/
import Derived.Test.YtmipngefpedfpaaHeap
import Derived.Test.YtmipngefpedfpaaLift
import Derived.MapViews
namespace Go.Proofs.Ytmipngefpedfpaa
open Go.RowKit Go.Maps
set_option linter.unusedVariables false
set_option linter.unusedSimpArgs false

structure Fr where
  key : Int
  used : Bool
  ref : Bool
  dirty : Bool
  pins : Int
def Fr.val (f : Fr) : Value := .agg #[.int .i64 f.key, .bool f.used, .bool f.ref, .bool f.dirty, .int .i64 f.pins]
def Fr.zero : Fr := ⟨0, false, false, false, 0⟩

/-- Frame i of the array that begins at the head of block B. -/
structure FrAt (w : World) (B i : Nat) (f : Fr) : Prop where
  c0 : w.cell? ⟨B, i * 5, none⟩ = some (.int .i64 f.key)
  c1 : w.cell? ⟨B, i * 5 + 1, none⟩ = some (.bool f.used)
  c2 : w.cell? ⟨B, i * 5 + 2, none⟩ = some (.bool f.ref)
  c3 : w.cell? ⟨B, i * 5 + 3, none⟩ = some (.bool f.dirty)
  c4 : w.cell? ⟨B, i * 5 + 4, none⟩ = some (.int .i64 f.pins)

def nameOf : Value → Option Int
  | .agg ⟨[.int .i64 k]⟩ => some k
  | _ => none
theorem nameOf_inv {v : Value} {k : Int} (h : nameOf v = some k) : v = .agg #[.int .i64 k] := by
  unfold nameOf at h
  split at h
  · cases h; rfl
  · cases h
/-- The map of the keys that are used, as a map of the model's values. -/
def keyF (g : Int → Option Nat) (v : Value) : Option Value := (nameOf v).bind fun k => (g k).map fun (i : Nat) => .int .i64 i
def upd (g : Int → Option Nat) (k : Int) (x : Option Nat) : Int → Option Nat := fun j => if j = k then x else g j

theorem keyF_at (g : Int → Option Nat) (k : Int) : keyF g (.agg #[.int .i64 k]) = (g k).map fun (i : Nat) => .int .i64 i := rfl
theorem keyF_put (g : Int → Option Nat) (k : Int) (i : Nat) : putK (keyF g) (.agg #[.int .i64 k]) (.int .i64 i) = keyF (upd g k (some i)) := by
  funext v
  unfold putK
  split
  · rename_i h; subst h; simp [keyF, nameOf, upd]
  · rename_i h
    unfold keyF
    cases hn : nameOf v with
    | none => rfl
    | some j =>
      have : j ≠ k := fun e => h (by rw [nameOf_inv hn, e])
      simp [upd, this]
theorem keyF_del (g : Int → Option Nat) (k : Int) : delK (keyF g) (.agg #[.int .i64 k]) = keyF (upd g k none) := by
  funext v
  unfold delK
  split
  · rename_i h; subst h; simp [keyF, nameOf, upd]
  · rename_i h
    unfold keyF
    cases hn : nameOf v with
    | none => rfl
    | some j =>
      have : j ≠ k := fun e => h (by rw [nameOf_inv hn, e])
      simp [upd, this]

theorem nameWide : (match Try.prog.underlying 101 with | some (.array _ _) | some (.struct _) => true | _ => false) = true := by kernel_rfl
set_option maxRecDepth 100000 in
theorem nameKeyed : Keyed Try.prog 101 := Keyed.of_law (deep_law_laid laidOut (m := 2) (by omega) (of_decide_eq_true (by kernel_rfl)) (by kernel_rfl) nameWide)
theorem cellsName : Try.prog.cellsOf 101 = 1 := by kernel_rfl
theorem cellsInt : Try.prog.cellsOf 3 = 1 := by kernel_rfl
theorem zeroInt (w : World) : (zeroValue 3).run Try.prog w = .ok (.int .i64 0) w := by kernel_rfl
set_option maxRecDepth 100000 in
theorem name_key {k : Int} (hk : (Lit.int .i64 k).wf = true) : ∃ l, keyOf Try.prog 101 (.agg #[.int .i64 k]) = some l := by
  have hf : (Value.agg #[.int .i64 k]).formed Try.prog 101 = true := by
    simp [Value.formed, Try.underlying101]
    kernel_rfl
  have hd : DataW.Trod (H := Unit) (fun _ => ()) Try.prog default 0 (fun _ => true) true 101 (.agg #[.int .i64 k]) (.agg [.lit (.int .i64 k)]) [] :=
    ⟨2, by simp [DataW.trod, Value.cells, Try.underlying101, Try.underlying3, hk, cellsName, cellsInt]⟩
  exact ⟨_, (keyOf_asKey (by kernel_rfl) nameWide hf hd).1⟩

structure PoolAt (w : World) (P B M n : Nat) (F : Nat → Fr) (h : Nat) (g : Int → Option Nat) (c : Nat) : Prop where
  l0 : w.cell? ⟨P, 0, none⟩ = some (.slice (some ⟨B, 0, none⟩) n n)
  l1 : w.cell? ⟨P, 1, none⟩ = some (.map (some M))
  l2 : w.cell? ⟨P, 2, none⟩ = some (.int .i64 h)
  lz : ∀ i, w.frozen? ⟨P, i, none⟩ = false
  fr : ∀ i, i < n → FrAt w B i (F i)
  fz : ∀ j, w.frozen? ⟨B, j, none⟩ = false
  mp : MapIs Try.prog 101 w M (keyF g) c
  ne : P ≠ B
  pos : 0 < n
  most : n ≤ 4096
  hand : h < n
  kw : ∀ i, i < n → (Lit.int .i64 (F i).key).wf = true

def findI (g : Int → Option Nat) (key : Int) : Int := match g key with | some i => i | none => 0

theorem PoolAt.look {w : World} {P B M n : Nat} {F : Nat → Fr} {h : Nat} {g : Int → Option Nat} {c : Nat} (p : PoolAt w P B M n F h g c) {key : Int} (hk : (Lit.int .i64 key).wf = true) :
    (Instr.lookup 93 (.map (some M)) (.agg #[.int .i64 key]) true).run Try.prog w = .ok (.tuple #[.int .i64 (findI g key), .bool (g key).isSome]) w := by
  obtain ⟨l, hl⟩ := name_key hk
  rw [p.mp.look nameKeyed Try.underlying93 (zeroInt w) hl true, keyF_at]
  cases hg : g key <;> simp [findI, hg]

def findV (g : Int → Option Nat) (key : Int) : Value := .tuple #[.int .i64 (findI g key), .bool (g key).isSome]

set_option maxHeartbeats 400000 in
theorem Find_any {w : World} {P B M n : Nat} {F : Nat → Fr} {h : Nat} {g : Int → Option Nat} {c : Nat} (p : PoolAt w P B M n F h g c) {key : Int} (hk : (Lit.int .i64 key).wf = true) :
    Calls Try.prog 31 #[.pointer (some ⟨P, 0, none⟩), .int .i64 key] w fun e w' => e = .returned (findV g key) ∧ w = w' := by
  have hl := p.look hk
  have l1 := p.l1
  go_enter Try.func31, Try.ntmps31
  go_wp2
  go_ret2
  exact ⟨rfl, rfl⟩

set_option maxHeartbeats 400000 in
theorem notUsed_any (f : Fr) (w : World) :
    Calls Try.prog 51 #[.agg #[.int .i64 f.key, .bool f.used, .bool f.ref, .bool f.dirty, .int .i64 f.pins]] w fun e w' => e = .returned (.bool (!f.used)) ∧ Below w.heap.size w w' := by
  go_enter Try.func51, Try.ntmps51
  go_wp2
  all_goals
    go_ret
    exact ⟨rfl, by go_grown⟩
set_option maxHeartbeats 400000 in
theorem noPins_any (f : Fr) (w : World) :
    Calls Try.prog 53 #[.agg #[.int .i64 f.key, .bool f.used, .bool f.ref, .bool f.dirty, .int .i64 f.pins]] w fun e w' => e = .returned (.bool (f.pins == 0)) ∧ Below w.heap.size w w' := by
  go_enter Try.func53, Try.ntmps53
  go_wp2
  all_goals
    go_ret
    exact ⟨rfl, by go_grown⟩

/-- The first of the n frames, from k on, at which q holds; -1: none. -/
def firstFrom (q : Nat → Bool) (n : Nat) : Nat → Nat → Int
  | 0, _ => -1
  | d + 1, k => if k < n then (if q k then (k : Int) else firstFrom q n d (k + 1)) else -1
def first (q : Nat → Bool) (n : Nat) : Int := firstFrom q n n 0
theorem firstFrom_spec (q : Nat → Bool) (n : Nat) : ∀ d k, n ≤ d + k → (firstFrom q n d k = -1 ∧ ∀ i, k ≤ i → i < n → q i = false) ∨ (∃ j : Nat, firstFrom q n d k = j ∧ k ≤ j ∧ j < n ∧ q j = true ∧ ∀ i, k ≤ i → i < j → q i = false)
  | 0, k, h => .inl ⟨rfl, fun i h1 h2 => by omega⟩
  | d + 1, k, h => by
    unfold firstFrom
    by_cases hk : k < n
    · rw [if_pos hk]
      cases hq : q k
      · simp only [Bool.false_eq_true, if_false]
        rcases firstFrom_spec q n d (k + 1) (by omega) with ⟨h1, h2⟩ | ⟨j, h1, h2, h3, h4, h5⟩
        · refine .inl ⟨h1, fun i hi hn => ?_⟩
          rcases Nat.lt_or_ge k i with hl | hl
          · exact h2 i (by omega) hn
          · have : i = k := by omega
            subst this; exact hq
        · refine .inr ⟨j, h1, by omega, h3, h4, fun i hi hj => ?_⟩
          rcases Nat.lt_or_ge k i with hl | hl
          · exact h5 i (by omega) hj
          · have : i = k := by omega
            subst this; exact hq
      · simp only [if_true]
        exact .inr ⟨k, rfl, Nat.le_refl _, hk, hq, fun i h1 h2 => by omega⟩
    · rw [if_neg hk]
      exact .inl ⟨rfl, fun i h1 h2 => by omega⟩
theorem first_spec (q : Nat → Bool) (n : Nat) : (first q n = -1 ∧ ∀ i, i < n → q i = false) ∨ (∃ j : Nat, first q n = j ∧ j < n ∧ q j = true ∧ ∀ i, i < j → q i = false) := by
  rcases firstFrom_spec q n n 0 (by omega) with ⟨h1, h2⟩ | ⟨j, h1, _, h3, h4, h5⟩
  · exact .inl ⟨h1, fun i hi => h2 i (by omega) hi⟩
  · exact .inr ⟨j, h1, h3, h4, fun i hi => h5 i (by omega) hi⟩
theorem first_is {q : Nat → Bool} {n j : Nat} (hj : j < n) (hq : q j = true) (hb : ∀ i, i < j → q i = false) : first q n = j := by
  rcases first_spec q n with ⟨h1, h2⟩ | ⟨j', h1, h2, h3, h4⟩
  · rw [h2 j hj] at hq; cases hq
  · rcases Nat.lt_trichotomy j j' with h | h | h
    · rw [h4 j h] at hq; cases hq
    · rw [h1, h]
    · rw [hb j' h] at h3; cases h3
theorem first_none {q : Nat → Bool} {n : Nat} (h : ∀ i, i < n → q i = false) : first q n = -1 := by
  rcases first_spec q n with ⟨h1, h2⟩ | ⟨j', h1, h2, h3, h4⟩
  · exact h1
  · rw [h j' h2] at h3; cases h3

/-- The n frames from the head of block B on. -/
def FrS (w : World) (B n : Nat) (F : Nat → Fr) : Prop := ∀ i, i < n → FrAt w B i (F i)
theorem FrAt.up {w w' : World} {B i : Nat} {f : Fr} (h : FrAt w B i f) (hb : Below w.heap.size w w') : FrAt w' B i f :=
  have hl := lt_of_cell h.c0
  ⟨(hb.cell hl).trans h.c0, (hb.cell hl).trans h.c1, (hb.cell hl).trans h.c2, (hb.cell hl).trans h.c3, (hb.cell hl).trans h.c4⟩

set_option maxHeartbeats 1000000 in
theorem IndexFunc_any (fn : Nat) (q : Fr → Bool) (hcf : ∀ (v : Value) (w : World), (callFunc fn #[v]).run Try.prog w = .ok (.enter fn #[v]) w) (hf : ∀ (f : Fr) (w : World), Calls Try.prog fn #[.agg #[.int .i64 f.key, .bool f.used, .bool f.ref, .bool f.dirty, .int .i64 f.pins]] w fun e w' => e = .returned (.bool (q f)) ∧ Below w.heap.size w w')
    (w : World) (B n : Nat) (F : Nat → Fr) (hn : n ≤ 4096) (hF : FrS w B n F) :
    Calls Try.prog 50 #[.slice (some ⟨B, 0, none⟩) n n, .func (.func fn) #[] #[]] w fun e w' => e = .returned (.int .i64 (first (fun i => q (F i)) n)) ∧ Below w.heap.size w w' := by
  have HH := Lib.hid hf
  have HF := Lib.hid hF
  clear hf hF
  go_enter Try.func50, Try.ntmps50
  go_wp2
  go_loopw [8] (fun i wr => ∃ k : Nat, k ≤ n ∧ i = .int .i64 k ∧ (∀ j, j < k → q (F j) = false) ∧ Below w.heap.size w wr) (fun i _ => n - (intOf i).toNat)
  case atStart => exact ⟨0, Nat.zero_le _, rfl, fun j h => by omega, Below.refl _ _⟩
  case round =>
    obtain ⟨k, hk, rfl, hno, hb⟩ := hrel
    by_cases hlt : k < n
    · obtain ⟨c0, c1, c2, c3, c4⟩ := (show FrAt wr B k (F k) from by
        have h := HF.out k hlt
        have hl := lt_of_cell h.c0
        exact ⟨(hb.cell hl).trans h.c0, (hb.cell hl).trans h.c1, (hb.cell hl).trans h.c2, (hb.cell hl).trans h.c3, (hb.cell hl).trans h.c4⟩)
      have HN := Lib.hid hno
      have HB := Lib.hid hb
      clear hno hb
      go_wp2_with fail
      refine (HH.out (F k) _).mono ?_
      rintro e w1 ⟨rfl, hb1⟩
      have HB1 := Lib.hid (below_upto HB.out hb1 (Nat.le_refl _))
      clear hb1
      cases hq : q (F k)
      · go_wp2
        go_roundw
        case rel =>
          refine ⟨k + 1, by omega, by go_num, fun j hj => ?_, HB1.out⟩
          rcases Nat.lt_or_ge j k with h | h
          · exact HN.out j h
          · have : j = k := by omega
            subst this; exact hq
        case measure => simp [intOf]; omega
      · go_wp2
        go_ret
        exact ⟨by rw [first_is (q := fun i => q (F i)) hlt hq HN.out]; rfl, HB1.out⟩
    · go_wp2
      go_ret
      exact ⟨by rw [first_none (q := fun i => q (F i)) (fun i hi => hno i (by omega))]; rfl, hb⟩

theorem cf1 (v : Value) (w : World) : (callFunc 51 #[v]).run Try.prog w = .ok (.enter 51 #[v]) w := by kernel_rfl
theorem cf2 (v : Value) (w : World) : (callFunc 53 #[v]).run Try.prog w = .ok (.enter 53 #[v]) w := by kernel_rfl

set_option maxHeartbeats 1000000 in
theorem ContainsFunc_any (fn : Nat) (q : Fr → Bool) (hcf : ∀ (v : Value) (w : World), (callFunc fn #[v]).run Try.prog w = .ok (.enter fn #[v]) w) (hf : ∀ (f : Fr) (w : World), Calls Try.prog fn #[.agg #[.int .i64 f.key, .bool f.used, .bool f.ref, .bool f.dirty, .int .i64 f.pins]] w fun e w' => e = .returned (.bool (q f)) ∧ Below w.heap.size w w')
    (w : World) (B n : Nat) (F : Nat → Fr) (hn : n ≤ 4096) (hF : FrS w B n F) :
    Calls Try.prog 52 #[.slice (some ⟨B, 0, none⟩) n n, .func (.func fn) #[] #[]] w fun e w' => e = .returned (.bool (decide (0 ≤ first (fun i => q (F i)) n))) ∧ Below w.heap.size w w' := by
  have HC := Lib.hid (IndexFunc_any fn q hcf hf w B n F hn hF)
  clear hcf hf hF
  go_enter Try.func52, Try.ntmps52
  go_wp2_with fail
  refine HC.out.mono ?_
  rintro e w1 ⟨rfl, hb1⟩
  go_wp2
  all_goals
    go_ret
    exact ⟨rfl, hb1⟩
end Go.Proofs.Ytmipngefpedfpaa
