/- region: All. -/
import Derived.Test.YtlhfjaagkgengaaGreatMRa
namespace Go.Proofs.YtlhfjaagkgengaaGreat
open Go.RowKit
set_option linter.unusedVariables false
set_option linter.unusedSimpArgs false

/-! in a round's frame an operation is what it is elsewhere -/
@[simp, go_sem] theorem semAt_assign (l : Nat) (ρ : Operand → Value) x d ty po af gd : Oper.semAt (some l) ρ { dst := d, op := .assign x, type := ty, pos := po, after := af, guard := gd } = execOp ρ { dst := d, op := .assign x, type := ty, pos := po, after := af, guard := gd } := Oper.semAt_some l _ _ (fun c h => by cases h)
@[simp, go_sem] theorem semAt_move (l : Nat) (ρ : Operand → Value) x d ty po af gd : Oper.semAt (some l) ρ { dst := d, op := .move x, type := ty, pos := po, after := af, guard := gd } = execOp ρ { dst := d, op := .move x, type := ty, pos := po, after := af, guard := gd } := Oper.semAt_some l _ _ (fun c h => by cases h)
@[simp, go_sem] theorem semAt_load (l : Nat) (ρ : Operand → Value) t1 x d ty po af gd : Oper.semAt (some l) ρ { dst := d, op := .load t1 x, type := ty, pos := po, after := af, guard := gd } = execOp ρ { dst := d, op := .load t1 x, type := ty, pos := po, after := af, guard := gd } := Oper.semAt_some l _ _ (fun c h => by cases h)
@[simp, go_sem] theorem semAt_store (l : Nat) (ρ : Operand → Value) t1 x y d ty po af gd : Oper.semAt (some l) ρ { dst := d, op := .store t1 x y, type := ty, pos := po, after := af, guard := gd } = execOp ρ { dst := d, op := .store t1 x y, type := ty, pos := po, after := af, guard := gd } := Oper.semAt_some l _ _ (fun c h => by cases h)
@[simp, go_sem] theorem semAt_binOp (l : Nat) (ρ : Operand → Value) b t1 x y t2 d ty po af gd : Oper.semAt (some l) ρ { dst := d, op := .binOp b t1 x y t2, type := ty, pos := po, after := af, guard := gd } = execOp ρ { dst := d, op := .binOp b t1 x y t2, type := ty, pos := po, after := af, guard := gd } := Oper.semAt_some l _ _ (fun c h => by cases h)
@[simp, go_sem] theorem semAt_unOp (l : Nat) (ρ : Operand → Value) b t1 x d ty po af gd : Oper.semAt (some l) ρ { dst := d, op := .unOp b t1 x, type := ty, pos := po, after := af, guard := gd } = execOp ρ { dst := d, op := .unOp b t1 x, type := ty, pos := po, after := af, guard := gd } := Oper.semAt_some l _ _ (fun c h => by cases h)
@[simp, go_sem] theorem semAt_pick (l : Nat) (ρ : Operand → Value) x y z d ty po af gd : Oper.semAt (some l) ρ { dst := d, op := .pick x y z, type := ty, pos := po, after := af, guard := gd } = execOp ρ { dst := d, op := .pick x y z, type := ty, pos := po, after := af, guard := gd } := Oper.semAt_some l _ _ (fun c h => by cases h)
@[simp, go_sem] theorem semAt_conv (l : Nat) (ρ : Operand → Value) t1 t2 x d ty po af gd : Oper.semAt (some l) ρ { dst := d, op := .convert t1 t2 x, type := ty, pos := po, after := af, guard := gd } = execOp ρ { dst := d, op := .convert t1 t2 x, type := ty, pos := po, after := af, guard := gd } := Oper.semAt_some l _ _ (fun c h => by cases h)
@[simp, go_sem] theorem semAt_ext (l : Nat) (ρ : Operand → Value) x i d ty po af gd : Oper.semAt (some l) ρ { dst := d, op := .extract x i, type := ty, pos := po, after := af, guard := gd } = execOp ρ { dst := d, op := .extract x i, type := ty, pos := po, after := af, guard := gd } := Oper.semAt_some l _ _ (fun c h => by cases h)
@[simp, go_sem] theorem semAt_look (l : Nat) (ρ : Operand → Value) t1 x y b d ty po af gd : Oper.semAt (some l) ρ { dst := d, op := .lookup t1 x y b, type := ty, pos := po, after := af, guard := gd } = execOp ρ { dst := d, op := .lookup t1 x y b, type := ty, pos := po, after := af, guard := gd } := Oper.semAt_some l _ _ (fun c h => by cases h)
@[simp, go_sem] theorem semAt_alloc (l : Nat) (ρ : Operand → Value) e d ty po af gd : Oper.semAt (some l) ρ { dst := d, op := .alloc e, type := ty, pos := po, after := af, guard := gd } = execOp ρ { dst := d, op := .alloc e, type := ty, pos := po, after := af, guard := gd } := Oper.semAt_some l _ _ (fun c h => by cases h)
@[simp, go_sem] theorem semAt_fieldAddr (l : Nat) (ρ : Operand → Value) t x f d ty po af gd : Oper.semAt (some l) ρ { dst := d, op := .fieldAddr t x f, type := ty, pos := po, after := af, guard := gd } = execOp ρ { dst := d, op := .fieldAddr t x f, type := ty, pos := po, after := af, guard := gd } := Oper.semAt_some l _ _ (fun c h => by cases h)
@[simp, go_sem] theorem semAt_indexAddr (l : Nat) (ρ : Operand → Value) t x i d ty po af gd : Oper.semAt (some l) ρ { dst := d, op := .indexAddr t x i, type := ty, pos := po, after := af, guard := gd } = execOp ρ { dst := d, op := .indexAddr t x i, type := ty, pos := po, after := af, guard := gd } := Oper.semAt_some l _ _ (fun c h => by cases h)
@[simp, go_sem] theorem semAt_build (l : Nat) (ρ : Operand → Value) t ps d ty po af gd : Oper.semAt (some l) ρ { dst := d, op := .build t ps, type := ty, pos := po, after := af, guard := gd } = execOp ρ { dst := d, op := .build t ps, type := ty, pos := po, after := af, guard := gd } := Oper.semAt_some l _ _ (fun c h => by cases h)
@[simp, go_sem] theorem semAt_nilCheck (l : Nat) (ρ : Operand → Value) x d ty po af gd : Oper.semAt (some l) ρ { dst := d, op := .nilCheck x, type := ty, pos := po, after := af, guard := gd } = execOp ρ { dst := d, op := .nilCheck x, type := ty, pos := po, after := af, guard := gd } := Oper.semAt_some l _ _ (fun c h => by cases h)
theorem loadVar_bool {w : World} {g : Nat} {b : Bool} (h : w.cell? ⟨g, 0, none⟩ = some (.bool b)) : (loadVar 4 ⟨g, 0, none⟩).run Tryz.prog w = .ok (.bool b) w := by
  simp [go_sem, h]
theorem results_bool1 {fn : Func} {p : Tmp} (h : fn.results = #[.cell p 4]) (tmps : Array Value) (w : World) (g : Nat) (b : Bool) (hp : tmps.getD p undef = .pointer (some ⟨g, 0, none⟩)) (h0 : w.cell? ⟨g, 0, none⟩ = some (.bool b)) :
    (results fn tmps).run Tryz.prog w = .ok (.bool b) w := by
  have hl := loadVar_bool h0
  have hp2 : tmps[p]?.getD undef = .pointer (some ⟨g, 0, none⟩) := by rw [← hp]; simp [Array.getD_eq_getD_getElem?]
  simp [results, h, hp2, asAddr, hl, Result.andThen]
/-- The deferred block is taken. -/
theorem leaves_one {P : Program} {fn : Func} {tmps : Array Value} {R : Ending → World → Prop} {F : Fence} {m D : Nat} {v : Value} {w : World} (hK : w.heap[D]? = some (.deferred (some []))) (hr : (results fn tmps).run P (w.putObj D (.deferred none)) = .ok v (w.putObj D (.deferred none))) (hR : R (.returned v) (w.putObj D (.deferred none))) :
    LeavesInM F m P fn tmps R [{ target := .collected D, args := #[] }] .returning w :=
  ⟨by simp, .inl ⟨D, _, rfl, run_takeDeferred hK, ⟨v, hr, hR⟩⟩⟩
def andI (a b : Int) : Int := bits .and .i64 a b
def allSt (ways : Int) : Option Int → Rg → Option Int × Bool
  | some at_, r => if r.lo ≠ at_ ∨ andI r.pr ways ≠ ways then (none, false) else (some r.hi, true)
  | none, _ => (none, false)
def allE (hi : Int) : Option Int → Bool
  | some at_ => decide (at_ = hi)
  | none => false
def allF (L : List Rg) (lo hi ways : Int) : Bool := if hi ≤ lo then true else allE hi (foldL (allSt ways) (some lo) (piecesF L lo hi))
theorem allSt_al (ways : Int) (x : Option Int) (e : Rg) (h : x.isSome = true) : (allSt ways x e).2 = (allSt ways x e).1.isSome := by
  cases x with
  | none => cases h
  | some a =>
    unfold allSt
    simp only
    split <;> rfl
def alO (b7 b8 b9 : Nat) : Nat → Prop := fun k => k = b7 ∨ k = b8 ∨ k = b9
structure AlIv (b7 b8 b9 : Nat) (ways : Int) (w : World) (at_ : Int) : Prop where
  c7 : w.cell? ⟨b7, 0, none⟩ = some (.int .i64 ways)
  c8 : w.cell? ⟨b8, 0, none⟩ = some (.bool false)
  f8 : w.frozen? ⟨b8, 0, none⟩ = false
  c9 : w.cell? ⟨b9, 0, none⟩ = some (.int .i64 at_)
  f9 : w.frozen? ⟨b9, 0, none⟩ = false
theorem AlIv.off {b7 b8 b9 : Nat} {ways at_ : Int} {w w' : World} {S : Nat → Prop} (h : AlIv b7 b8 b9 ways w at_) (ho : Off S w w') (hs : ∀ k, S k → ¬ alO b7 b8 b9 k) : AlIv b7 b8 b9 ways w' at_ :=
  ⟨(ho.cell (p := ⟨b7, 0, none⟩) (lt_of_cell h.c7) (fun e => hs _ e (.inl rfl))).trans h.c7, (ho.cell (p := ⟨b8, 0, none⟩) (lt_of_cell h.c8) (fun e => hs _ e (.inr (.inl rfl)))).trans h.c8, (ho.frozen (p := ⟨b8, 0, none⟩) (lt_of_cell h.c8) (fun e => hs _ e (.inr (.inl rfl)))).trans h.f8,
    (ho.cell (p := ⟨b9, 0, none⟩) (lt_of_cell h.c9) (fun e => hs _ e (.inr (.inr rfl)))).trans h.c9, (ho.frozen (p := ⟨b9, 0, none⟩) (lt_of_cell h.c9) (fun e => hs _ e (.inr (.inr rfl)))).trans h.f9⟩
theorem AlIv.lt {b7 b8 b9 : Nat} {ways at_ : Int} {w : World} (h : AlIv b7 b8 b9 ways w at_) {k : Nat} (hk : alO b7 b8 b9 k) : k < w.heap.size := by
  rcases hk with rfl | rfl | rfl
  · exact lt_of_cell h.c7
  · exact lt_of_cell h.c8
  · exact lt_of_cell h.c9
set_option maxRecDepth 100000 in
set_option maxHeartbeats 4000000 in
theorem all_any (w : World) {A : Option Addr} (c : Nat) {L : List Rg} (hL : RgAt w A L) (hn : L.length ≤ 100000) (lo hi ways : Int) :
    Calls Tryz.prog 101 #[.slice A L.length c, .int .i64 lo, .int .i64 hi, .int .i64 ways] w fun e w' => e = .returned (.bool (allF L lo hi ways)) ∧ Below w.heap.size w w' := by
  have HL := Lib.hid hL
  clear hL
  refine (callsIn_wide (n := 9)).1 ?_
  refine callsIn_of_wp_marks Tryz.func101 rfl trivial ?_ rfl
  simp only [Tryz.ntmps101, List.size_toArray, List.length_cons, List.length_nil, Nat.reduceAdd, Nat.reduceSub, Array.replicate_succ, Array.replicate_zero, List.push_toArray, List.append_toArray, List.nil_append, List.cons_append]
  refine wpIn_wide.2 ?_
  go_upto_region 1 with (fail)
  have h2 : ∀ W, W = ((w.alloc (.cells #[.int .i64 ways] 3)).alloc (.cells #[.bool false] 4)) → Below w.heap.size w W ∧ W.cell? ⟨w.heap.size, 0, none⟩ = some (.int .i64 ways) ∧ W.cell? ⟨w.heap.size + 1, 0, none⟩ = some (.bool false) ∧ W.frozen? ⟨w.heap.size + 1, 0, none⟩ = false ∧ W.heap.size = w.heap.size + 2 := by
    rintro W rfl
    have s1 : (w.alloc (.cells #[.int .i64 ways] 3)).heap.size = w.heap.size + 1 := by simp
    have b1 : Below w.heap.size w (w.alloc (.cells #[.int .i64 ways] 3)) := (Below.refl _ _).alloc (Nat.le_refl _) _
    have c1 := (alloc_at w (.int .i64 ways) 3).1
    generalize w.alloc (.cells #[.int .i64 ways] 3) = W1 at *
    have b2 : Below W1.heap.size W1 (W1.alloc (.cells #[.bool false] 4)) := (Below.refl _ _).alloc (Nat.le_refl _) _
    have c2 := alloc_at W1 (.bool false) 4
    rw [s1] at c2
    exact ⟨b1.trans (b2.mono (by omega)), (b2.cell (p := ⟨w.heap.size, 0, none⟩) (by show w.heap.size < W1.heap.size; omega)).trans c1, c2.1, c2.2, by simp [s1]⟩
  refine wp_forget (fun W => Below w.heap.size w W ∧ W.cell? ⟨w.heap.size, 0, none⟩ = some (.int .i64 ways) ∧ W.cell? ⟨w.heap.size + 1, 0, none⟩ = some (.bool false) ∧ W.frozen? ⟨w.heap.size + 1, 0, none⟩ = false ∧ W.heap.size = w.heap.size + 2) (h2 _ rfl) ?_
  clear h2
  rintro W0 ⟨hb0, c7, c8, f8, hs0⟩
  have HB0 := Lib.hid hb0
  have l8 := lt_of_cell c8
  clear hb0
  obtain ⟨g7, hg7⟩ : ∃ g, w.heap.size = g := ⟨_, rfl⟩
  obtain ⟨g8, hg8⟩ : ∃ g, g7 + 1 = g := ⟨_, rfl⟩
  rw [hg7, hg8] at c8 f8 l8
  rw [hg7] at c7
  rw [hg7, hg8]
  have HG := Lib.hid (And.intro hg7 hg8)
  have HS0 := Lib.hid hs0
  clear hg7 hg8 hs0
  have HEND : Hid (∀ (Tm : Array Value) (V : World) (D : Nat) (z : Bool), Tm.getD 8 undef = .pointer (some ⟨g8, 0, none⟩) → w.heap.size ≤ D → V.heap[D]? = some (.deferred (some [])) → g8 ≠ D → Below w.heap.size w V → V.cell? ⟨g8, 0, none⟩ = some (.bool z) → z = allF L lo hi ways → bodyPostM Fence.wide 9 Tryz.prog Tryz.f101 (fun e w' => e = .returned (.bool (allF L lo hi ways)) ∧ Below w.heap.size w w') .ret { tmps := Tm, defers := [{ target := .collected D, args := #[] }] } V) := Lib.hid fun Tm V D z hT hD hd hne hb hc hz => by
    have ho := off_putObj V (l := D) (.deferred none)
    exact leaves_one hd (results_bool1 rfl Tm _ g8 z hT ((ho.cell (p := ⟨g8, 0, none⟩) (lt_of_cell hc) (fun e => hne e)).trans hc)) ⟨by rw [hz], hb.trans (ho.below (fun k e => by rw [e]; exact hD) hb.size)⟩
  by_cases hle : hi ≤ lo
  · have hz : allF L lo hi ways = true := by unfold allF; rw [if_pos hle]
    go_wp2
    refine ⟨_, results_bool1 rfl _ _ g8 true rfl (World.cell?_setCell_same _ _ _ c8), by rw [hz], ?_⟩
    have ho : Off (· = g8) W0 (W0.setCell ⟨g8, 0, none⟩ (.bool true)) := (Off.refl (· = g8) W0).setCell (p := ⟨g8, 0, none⟩) rfl _
    exact HB0.out.trans (ho.below (fun k e => by rw [e]; have := HG.out; omega) HB0.out.size)
  · have hz : allF L lo hi ways = allE hi (foldL (allSt ways) (some lo) (piecesF L lo hi)) := by unfold allF; rw [if_neg hle]
    have HZ := Lib.hid hz
    have hled : decide (hi ≤ lo) = false := decide_eq_false hle
    clear hz hle
    go_upto_region 4 with (fail)
    refine wp_forget (fun W => AlIv g7 g8 W0.heap.size ways W lo ∧ Below W0.heap.size W0 W ∧ W.heap.size = W0.heap.size + 1) ?_ ?_
    · have b1 : Below W0.heap.size W0 (W0.alloc (.cells #[.int .i64 lo] 3)) := (Below.refl _ _).alloc (Nat.le_refl _) _
      have cn := alloc_at W0 (.int .i64 lo) 3
      exact ⟨⟨(b1.cell (p := ⟨g7, 0, none⟩) (lt_of_cell c7)).trans c7, (b1.cell (p := ⟨g8, 0, none⟩) l8).trans c8, (b1.frozen (p := ⟨g8, 0, none⟩) l8).trans f8, cn.1, cn.2⟩, b1, by simp⟩
    rintro W1 ⟨hiv, hb1, hs1⟩
    obtain ⟨g9, hg9⟩ : ∃ g, W0.heap.size = g := ⟨_, rfl⟩
    rw [hg9] at hiv
    rw [hg9]
    have HG9 := Lib.hid hg9
    have HIV := Lib.hid hiv
    have HB1 := Lib.hid (HB0.out.trans (hb1.mono HB0.out.size))
    have HS1 := Lib.hid hs1
    have HPI := Lib.hid (pieces_any W1 c (HL.out.up HB1.out) hn lo hi)
    clear hiv hb1 hs1 c7 c8 f8 l8 hg9 HB0
    go_wp2_with (go_at_call 144; refine HPI.out.mono ?_; rintro e W2 ⟨A', c', rfl, hpc, hb2, hs2, hrow⟩)
    have HIV2 : Hid (AlIv g7 g8 g9 ways W2 lo) := Lib.hid (HIV.out.off (S := fun _ => False) (Off.of_below hb2) (fun _ => False.elim))
    have HPC := Lib.hid hpc
    have HB2 := Lib.hid (HB1.out.trans (hb2.mono HB1.out.size))
    have HROW := Lib.hid hrow
    have HLT : Hid (∀ k, alO g7 g8 g9 k → k < W1.heap.size) := Lib.hid fun k hk => HIV.out.lt hk
    have HS2 := Lib.hid hs2
    clear hpc hb2 hs2 hrow HIV HPI HB1
    refine (wpIn_wide (n := 9)).1 ?_
    refine range_list (E := Rg) (args := Rg.args) (Ov := alO g7 g8 g9) (ent_fn Tryz.func168 (by kernel_rfl) rfl) rfl (fun x => rfl) (allSt ways) Option.isSome (allSt_al ways)
      (fun w O1 x => (∀ k, O1 k ↔ alO g7 g8 g9 k) ∧ ∃ at_, x = some at_ ∧ AlIv g7 g8 g9 ways w at_) (fun c w O1 _ => (∀ k, O1 k ↔ alO g7 g8 g9 k) ∧ c = .ret ∧ w.cell? ⟨g8, 0, none⟩ = some (.bool false) ∧ ∀ k, alO g7 g8 g9 k → k < w.heap.size)
      (fun {S O w w' x} h ho hs => ⟨h.1, by
        obtain ⟨at_, e, hi⟩ := h.2
        exact ⟨at_, e, hi.off ho (fun k e2 e3 => hs k e2 ((h.1 k).2 e3))⟩⟩) (fun {O w x k} h hk => by
        obtain ⟨at_, e, hi⟩ := h.2
        exact hi.lt ((h.1 k).1 hk))
      (fun {c S O w w' x} h ho hs => ⟨h.1, h.2.1, (ho.cell (p := ⟨g8, 0, none⟩) (lt_of_cell h.2.2.1) (fun e => hs _ e ((h.1 g8).2 (.inr (.inl rfl))))).trans h.2.2.1, fun k hk => Nat.lt_of_lt_of_le (h.2.2.2 k hk) ho.size⟩) (fun {c O w x k} h hk => h.2.2.2 k ((h.1 k).1 hk))
      ?a1 (fun e W W' => W'.cell? ⟨W.heap.size, 0, none⟩ = some (.int .i64 e.lo) ∧ W'.cell? ⟨W.heap.size, 1, none⟩ = some (.int .i64 e.hi) ∧ W'.cell? ⟨W.heap.size, 2, none⟩ = some (.int .i64 e.pr)) (some lo) rfl (piecesF L lo hi) ⟨fun k => Iff.rfl, lo, rfl, HIV2.out⟩ ?iter ?assign ?body ?fin
    case iter =>
      intro Y V1 O1 hb hiv hO1
      refine pieces1_any Y (allSt_al ways) hiv rfl (HPC.out.off (S := fun _ => False) (Off.of_below hb) (fun _ => False.elim)) (fun k hk e => ?_) hn
      have h1 : W1.heap.size ≤ k := by
        rcases hk with e | e | e | e
        · omega
        · omega
        · omega
        · exact HROW.out k e
      have h2 := HPC.out.lt hk
      rcases hO1 k e with e | e
      · have := HLT.out k e; omega
      · omega
    case assign =>
      intro l x W' K hK
      have HK := Lib.hid hK
      clear hK
      simp only [Rg.args, Rg.v]
      gi_wp2
      refine HK.out _ ((Below.refl _ _).alloc (Nat.le_refl _) _) ?_
      have hc : ∀ k v, (#[.int .i64 x.lo, .int .i64 x.hi, .int .i64 x.pr] : Array Value)[k]? = some v → (W'.alloc (.cells #[.int .i64 x.lo, .int .i64 x.hi, .int .i64 x.pr] 62)).cell? ⟨W'.heap.size, k, none⟩ = some v := fun k v hv => by
        rw [cell_of_row _ _ _ _ _ _ (heap_alloc_new W' _)]; exact hv
      exact ⟨hc 0 _ rfl, hc 1 _ rfl, hc 2 _ rfl⟩
    case body =>
      intro l x e V0 V1 V O1 hiv hx hb hrel hof hl hlt
      obtain ⟨e0, e1, e2⟩ := e
      obtain ⟨hO1, at_, rfl, hi2⟩ := hiv
      obtain ⟨r0, r1, r2⟩ := hrel
      have lv := lt_of_cell r0
      have hne : ¬ V0.heap.size = l := by omega
      have k0 := (hof.cell (p := ⟨V0.heap.size, 0, none⟩) lv hne).trans r0
      have k1 := (hof.cell (p := ⟨V0.heap.size, 1, none⟩) lv hne).trans r1
      have k2 := (hof.cell (p := ⟨V0.heap.size, 2, none⟩) lv hne).trans r2
      have c7 := hi2.c7
      have c8 := hi2.c8
      have f8 := hi2.f8
      have c9 := hi2.c9
      have f9 := hi2.f9
      have l7 := lt_of_cell c7
      have l8 := lt_of_cell c8
      have l9 := lt_of_cell c9
      have lk := lt_of_cell k0
      have HO1 := Lib.hid hO1
      have HI2 := Lib.hid hi2
      have hng : g8 ≠ g9 ∧ g7 ≠ g9 := by have h1 := HG.out; have h2 := HG9.out; have h3 := HS0.out; omega
      simp only at k0 k1 k2
      clear hO1 hi2 r0 r1 r2 hof hlt
      obtain ⟨z, hz⟩ : ∃ z, allSt ways (some at_) ⟨e0, e1, e2⟩ = z := ⟨_, rfl⟩
      rw [hz]
      have hstop : ∀ V', V' = V.setCell ⟨g8, 0, none⟩ (.bool false) → (∀ k, O1 k ↔ alO g7 g8 g9 k) ∧ V'.cell? ⟨g8, 0, none⟩ = some (.bool false) ∧ ∀ k, alO g7 g8 g9 k → k < V'.heap.size := by
        rintro V' rfl
        exact ⟨HO1.out, World.cell?_setCell_same _ _ _ c8, fun k hk => by have := HI2.out.lt hk; simpa using this⟩
      have HSTOP := Lib.hid hstop
      have hnext : AlIv g7 g8 g9 ways (V.setCell ⟨g9, 0, none⟩ (.int .i64 e1)) e1 := by
        have ho : Off (· = g9) V (V.setCell ⟨g9, 0, none⟩ (.int .i64 e1)) := (Off.refl (· = g9) V).setCell (p := ⟨g9, 0, none⟩) rfl _
        exact ⟨(ho.cell (p := ⟨g7, 0, none⟩) l7 (fun e => hng.2 e)).trans c7, (ho.cell (p := ⟨g8, 0, none⟩) l8 (fun e => hng.1 e)).trans c8, (ho.frozen (p := ⟨g8, 0, none⟩) l8 (fun e => hng.1 e)).trans f8, World.cell?_setCell_same _ _ _ c9, (World.frozen?_setCell _ _ _ _).trans f9⟩
      have HNEXT := Lib.hid hnext
      have HZ1 := Lib.hid hz
      clear hstop hnext hz hng
      by_cases h1 : e0 = at_
      · by_cases h2 : bits .and .i64 e2 ways = ways
        · have hz : z = (some e1, true) := by
            rw [← HZ1.out]
            unfold allSt andI
            simp only
            rw [if_neg (by rintro (h | h); exact h h1; exact h h2)]
          have hb1 : (e0 != at_) = false := by simp [h1]
          subst h1
          rw [hz]
          have hb2 : (bits .and .i64 e2 ways != ways) = false := by simp [h2]
          clear hz h2 HSTOP HZ1
          gi_wp2
          exact ⟨rfl, O1, ⟨HO1.out, e1, rfl, HNEXT.out⟩, (Off.refl O1 V).setCell (p := ⟨g9, 0, none⟩) ((HO1.out g9).2 (.inr (.inr rfl))) _, fun k hk => .inl hk⟩
        · have hz : z = (none, false) := by
            rw [← HZ1.out]
            unfold allSt andI
            simp only
            rw [if_pos (.inr h2)]
          have hb1 : (e0 != at_) = false := by simp [h1]
          subst h1
          rw [hz]
          have hb2 : (bits .and .i64 e2 ways != ways) = true := by simp [h2]
          clear hz h2 HNEXT HZ1
          gi_wp2
          exact ⟨rfl, O1, ⟨(HSTOP.out _ rfl).1, rfl, (HSTOP.out _ rfl).2⟩, (Off.refl O1 V).setCell (p := ⟨g8, 0, none⟩) ((HO1.out g8).2 (.inr (.inl rfl))) _, fun k hk => .inl hk⟩
      · have hz : z = (none, false) := by
          rw [← HZ1.out]
          unfold allSt andI
          simp only
          rw [if_pos (.inl h1)]
        have hb1 : (e0 != at_) = true := by simp [h1]
        rw [hz]
        clear hz h1 HNEXT HZ1
        gi_wp2
        exact ⟨rfl, O1, ⟨(HSTOP.out _ rfl).1, rfl, (HSTOP.out _ rfl).2⟩, (Off.refl O1 V).setCell (p := ⟨g8, 0, none⟩) ((HO1.out g8).2 (.inr (.inl rfl))) _, fun k hk => .inl hk⟩
    case fin =>
      intro D W4 O1 y hy hD hdf hof hO1
      have hDn : g8 < D ∧ g9 < D ∧ w.heap.size ≤ D := by have h1 := HG.out; have h2 := HG9.out; have h3 := HS0.out; have h4 := HS1.out; have h5 := HS2.out; omega
      have hbw : Below w.heap.size w W4 := HB2.out.trans (hof.below (fun k e => by have h1 := HG.out; have h2 := HG9.out; have h3 := HS0.out; rcases e with e | e | e <;> omega) HB2.out.size)
      have HBW := Lib.hid hbw
      have HDF := Lib.hid hdf
      have hval : allF L lo hi ways = allE hi y := by rw [HZ.out, hy]
      have HV := Lib.hid hval
      have HY := Lib.hid hy
      clear hbw hdf hval hof hO1 hy
      refine ⟨fun hal hiv => ?_, fun hal c hix => ?_⟩
      · obtain ⟨hO1b, at_, hya, hi4⟩ := hiv
        subst hya
        have c8 := hi4.c8
        have f8 := hi4.f8
        have c9 := hi4.c9
        have l8 := lt_of_cell c8
        have l9 := lt_of_cell c9
        have HV2 := Lib.hid (show allF L lo hi ways = decide (at_ = hi) from HV.out)
        clear hi4 hO1b HV HY hal
        have ho : ∀ z, Off (· = g8) W4 (W4.setCell ⟨g8, 0, none⟩ (.bool z)) := fun z => (Off.refl (· = g8) W4).setCell (p := ⟨g8, 0, none⟩) rfl _
        have hbz : ∀ z, Below w.heap.size w (W4.setCell ⟨g8, 0, none⟩ (.bool z)) := fun z => HBW.out.trans ((ho z).below (fun k e => by rw [e]; have := HG.out; omega) HBW.out.size)
        have HBZ := Lib.hid hbz
        have HO := Lib.hid ho
        clear ho hbz
        go_wp2
        exact HEND.out _ _ D (at_ == hi) rfl hDn.2.2 (heap_off HDF.out (HO.out _) (by omega)) (by omega) (HBZ.out _) (World.cell?_setCell_same _ _ _ c8) (by rw [HV2.out]; rfl)
      · obtain ⟨hO1b, rfl, c8, _⟩ := hix
        have HV2 : Hid (allF L lo hi ways = false) := Lib.hid (by
          rw [HV.out]
          cases y with
          | none => rfl
          | some a => cases hal)
        have l8 := lt_of_cell c8
        clear HV hO1b
        gi_wp2
        exact HEND.out _ _ D false rfl hDn.2.2 HDF.out (by omega) HBW.out c8 HV2.out.symm
end Go.Proofs.YtlhfjaagkgengaaGreat
