/- What the sort works on; the law's less, clean's comparison; swapRange, rotate. -/
import Derived.Test.YteckbhpjhohanaaSP
import Derived.Test.YteckbhpjhohanaaHeap
namespace Go.Proofs.Yteckbhpjhohanaa
open Go.RowKit
set_option linter.unusedVariables false
set_option linter.unusedSimpArgs false

/-- What the law's less looks at: the blocks of its variables, the numbers. -/
structure Env where
  cN : Nat
  cO : Nat
  cL : Nat
  cB : Nat
  cF : Nat
  odd : Bool
  div : Int
  n : Nat
  cap : Nat
  A : Option Addr
  L : Nat → Int
def Env.val (e : Env) (x : Int) : Int := wrap64 ((e.L x.toNat).tdiv e.div)
def Env.fn (e : Env) : Value := .func (.func 6) #[] #[.pointer (some ⟨e.cN, 0, none⟩), .pointer (some ⟨e.cO, 0, none⟩), .pointer (some ⟨e.cL, 0, none⟩), .pointer (some ⟨e.cB, 0, none⟩)]
def Env.cmp (e : Env) : Value := .func (.func 10) #[] #[.pointer (some ⟨e.cF, 0, none⟩)]
/-- The slice at A holds the n numbers L. -/
def SI (w : World) (A : Option Addr) (n : Nat) (L : Nat → Int) : Prop := 0 < n → ∃ b o, A = some ⟨b, o, none⟩ ∧ b < w.heap.size ∧ ∀ k, k < n → w.cell? ⟨b, o + k, none⟩ = some (.int .i64 (L k))
/-- The blocks that less reads and does not write. -/
def Env.Of (e : Env) (k : Nat) : Prop := k = e.cO ∨ k = e.cL ∨ k = e.cB ∨ k = e.cF ∨ ∃ o, e.A = some ⟨k, o, none⟩
structure EnvAt (w : World) (e : Env) : Prop where
  hN : ∃ x, w.cell? ⟨e.cN, 0, none⟩ = some (.int .i64 x)
  zN : w.frozen? ⟨e.cN, 0, none⟩ = false
  hO : w.cell? ⟨e.cO, 0, none⟩ = some (.bool e.odd)
  hL : w.cell? ⟨e.cL, 0, none⟩ = some (.slice e.A e.n e.cap)
  hB : w.cell? ⟨e.cB, 0, none⟩ = some (.int .i64 e.div)
  hF : w.cell? ⟨e.cF, 0, none⟩ = some e.fn
  ls : SI w e.A e.n e.L
  ne : ¬ e.Of e.cN
  pos : 1 ≤ e.div
  most : e.n ≤ 200

theorem SI.off {S : Nat → Prop} {w w' : World} {A : Option Addr} {n : Nat} {L : Nat → Int} (h : SI w A n L) (ho : Off S w w') (hs : ∀ k o, A = some ⟨k, o, none⟩ → ¬ S k) : SI w' A n L := fun hp => by
  obtain ⟨b, o, rfl, hb, hc⟩ := h hp
  exact ⟨b, o, rfl, Nat.lt_of_lt_of_le hb ho.size, fun k hk => (ho.cell hb (hs b o rfl)).trans (hc k hk)⟩
theorem EnvAt.off {S : Nat → Prop} {w w' : World} {e : Env} (h : EnvAt w e) (ho : Off S w w') (h1 : ∀ k, e.Of k → ¬ S k) (h2 : ¬ S e.cN) : EnvAt w' e := by
  obtain ⟨x, hx⟩ := h.hN
  exact ⟨⟨x, (ho.cell (lt_of_cell hx) h2).trans hx⟩, (ho.frozen (lt_of_cell hx) h2).trans h.zN, (ho.cell (lt_of_cell h.hO) (h1 _ (.inl rfl))).trans h.hO, (ho.cell (lt_of_cell h.hL) (h1 _ (.inr (.inl rfl)))).trans h.hL,
    (ho.cell (lt_of_cell h.hB) (h1 _ (.inr (.inr (.inl rfl))))).trans h.hB, (ho.cell (lt_of_cell h.hF) (h1 _ (.inr (.inr (.inr (.inl rfl)))))).trans h.hF, h.ls.off ho (fun k o hk => h1 k (.inr (.inr (.inr (.inr ⟨o, hk⟩))))), h.ne, h.pos, h.most⟩
theorem EnvAt.up {w w' : World} {e : Env} (h : EnvAt w e) (hb : Below w.heap.size w w') : EnvAt w' e := h.off (S := fun _ => False) (Off.of_below hb) (fun _ _ => id) id
theorem EnvAt.drewN {w : World} {e : Env} (h : EnvAt w e) (k : Nat) : EnvAt (w.drewN k) e := h.up (below_drewN (Below.refl _ _) k)
/-- The counter is written. -/
theorem EnvAt.count {w : World} {e : Env} (h : EnvAt w e) (x : Int) : EnvAt (w.setCell ⟨e.cN, 0, none⟩ (.int .i64 x)) e := by
  have ho : Off (· = e.cN) w (w.setCell ⟨e.cN, 0, none⟩ (.int .i64 x)) := (Off.refl (· = e.cN) w).setCell (p := ⟨e.cN, 0, none⟩) rfl _
  have hn : ∀ k, e.Of k → ¬ k = e.cN := fun k hk he => h.ne (he ▸ hk)
  obtain ⟨y, hy⟩ := h.hN
  exact ⟨⟨x, World.cell?_setCell_same _ _ _ hy⟩, by rw [World.frozen?_setCell]; exact h.zN, (ho.cell (lt_of_cell h.hO) (hn _ (.inl rfl))).trans h.hO, (ho.cell (lt_of_cell h.hL) (hn _ (.inr (.inl rfl)))).trans h.hL,
    (ho.cell (lt_of_cell h.hB) (hn _ (.inr (.inr (.inl rfl))))).trans h.hB, (ho.cell (lt_of_cell h.hF) (hn _ (.inr (.inr (.inr (.inl rfl)))))).trans h.hF, h.ls.off ho (fun k o hk => hn k (.inr (.inr (.inr (.inr ⟨o, hk⟩))))), h.ne, h.pos, h.most⟩

def LessPost (e : Env) (x y : Int) (w : World) (en : Ending) (w' : World) : Prop := ∃ r : Bool, en = .returned (.bool r) ∧ (e.odd = false → (r = true ↔ e.val x < e.val y)) ∧ EnvAt w' e ∧ Off (· = e.cN) w w'
def CmpPost (e : Env) (x y : Int) (w : World) (en : Ending) (w' : World) : Prop := ∃ v : Int, en = .returned (.int .i64 v) ∧ (e.odd = false → (v < 0 ↔ e.val x < e.val y)) ∧ EnvAt w' e ∧ Off (· = e.cN) w w'

set_option maxHeartbeats 1000000 in
theorem lessS_any (w : World) (e : Env) (x y : Nat) (h : EnvAt w e) (hx : x < e.n) (hy : y < e.n) :
    Calls Try.prog 6 #[.int .i64 x, .int .i64 y, .pointer (some ⟨e.cN, 0, none⟩), .pointer (some ⟨e.cO, 0, none⟩), .pointer (some ⟨e.cL, 0, none⟩), .pointer (some ⟨e.cB, 0, none⟩)] w (LessPost e x y w) := by
  obtain ⟨z, hz⟩ := h.hN
  have z0 := h.zN
  have hm := h.most
  have HX : Hid (∀ k, EnvAt (w.setCell ⟨e.cN, 0, none⟩ (.int .i64 k)) e ∧ Off (· = e.cN) w (w.setCell ⟨e.cN, 0, none⟩ (.int .i64 k))) := fun k => ⟨h.count k, (Off.refl (· = e.cN) w).setCell (p := ⟨e.cN, 0, none⟩) rfl _⟩
  have HV : Hid (∀ k : Nat, e.val k = wrap64 ((e.L k).tdiv e.div)) := fun k => by simp [Env.val]
  clear h
  go_enter Try.func6, Try.ntmps6
  go_upto_region 2 with (fail)
  refine wp_forget (fun W => EnvAt W e ∧ Off (· = e.cN) w W) (HX.out _) ?_
  clear HX hz z0
  rintro w2 ⟨h, ho⟩
  have hO := h.hO
  have HE := Lib.hid h
  have HO := Lib.hid ho
  obtain ⟨z, hz⟩ := h.hN
  cases hod : e.odd
  · rw [hod] at hO
    have hL := h.hL
    have hB := h.hB
    have hp := h.pos
    obtain ⟨b, o, hA, hb, hc⟩ := h.ls (by omega)
    rw [hA] at hL
    have cx := hc x hx
    have cy := hc y hy
    have d0 : (e.div == 0) = false := by simp; omega
    clear h ho hA hc
    go_upto_region 4 with (fail)
    go_quiet (fail)
    go_wp2
    go_ret
    refine ⟨_, rfl, fun _ => ?_, HE.out.drewN _, HO.out.drewN _⟩
    rw [HV.out, HV.out]
    simp
  · rw [hod] at hO
    clear h ho
    go_wp2
    go_ret
    exact ⟨_, rfl, fun h => absurd (hod.symm.trans h) (by decide), HE.out, HO.out⟩

theorem cfL (a b c d e f : Value) (w : World) : (callFunc 6 #[a, b, c, d, e, f]).run Try.prog w = .ok (.enter 6 #[a, b, c, d, e, f]) w := by kernel_rfl
theorem cfC (a b c : Value) (w : World) : (callFunc 10 #[a, b, c]).run Try.prog w = .ok (.enter 10 #[a, b, c]) w := by kernel_rfl

set_option maxHeartbeats 1000000 in
theorem cmp_any (w : World) (e : Env) (x y : Nat) (h : EnvAt w e) (hx : x < e.n) (hy : y < e.n) :
    Calls Try.prog 10 #[.int .i64 x, .int .i64 y, .pointer (some ⟨e.cF, 0, none⟩)] w (CmpPost e x y w) := by
  have hF := h.hF
  unfold Env.fn at hF
  have cfL := cfL
  have HE := Lib.hid h
  clear h
  go_enter Try.func10, Try.ntmps10
  go_wp2_with fail
  refine (lessS_any w e x y HE.out hx hy).mono ?_
  rintro en w1 ⟨r, rfl, hr, h1, o1⟩
  have HE1 := Lib.hid h1
  have HO1 := Lib.hid o1
  have HR := Lib.hid hr
  have hF1 := h1.hF
  unfold Env.fn at hF1
  clear h1 o1 hr hF
  cases r
  · go_wp2_with fail
    refine (lessS_any w1 e y x HE1.out hy hx).mono ?_
    rintro en w2 ⟨r, rfl, hr, h2, o2⟩
    have HX : Hid (EnvAt w2 e ∧ Off (· = e.cN) w w2) := ⟨h2, HO1.out.trans o2⟩
    clear h2 o2 hr
    cases r
    · go_wp2
      go_ret
      exact ⟨_, rfl, fun ho => by have := HR.out ho; simp at this; simp; omega, HX.out.1, HX.out.2⟩
    · go_wp2
      go_ret
      exact ⟨_, rfl, fun ho => by have := HR.out ho; simp at this; simp; omega, HX.out.1, HX.out.2⟩
  · go_wp2
    go_ret
    exact ⟨_, rfl, fun ho => by have := HR.out ho; simp at this; simp; omega, HE1.out, HO1.out⟩

/-- The numbers that are sorted lie at the head of block B. -/
structure DS (w : World) (e : Env) (B : Nat) (D : Nat → Int) : Prop where
  env : EnvAt w e
  dat : ∀ i, i < e.n → w.cell? ⟨B, i, none⟩ = some (.int .i64 (D i))
  fz : ∀ j, w.frozen? ⟨B, j, none⟩ = false
  rng : ∀ i, i < e.n → ∃ k : Nat, D i = k ∧ k < e.n
  ne : ¬ e.Of B ∧ B ≠ e.cN
/-- What sorting may change. -/
def SBl (e : Env) (B : Nat) : Nat → Prop := fun k => k = B ∨ k = e.cN

theorem DS.drew {w : World} {e : Env} {B : Nat} {D : Nat → Int} (h : DS w e B D) : DS w.drew e B D := ⟨h.env.up (Below.refl _ _).drew, h.dat, h.fz, h.rng, h.ne⟩
theorem DS.swap {w : World} {e : Env} {B i j : Nat} {D : Nat → Int} (h : DS w e B D) (hi : i < e.n) (hj : j < e.n) (hij : i ≠ j) : DS ((w.setCell ⟨B, i, none⟩ (.int .i64 (D j))).setCell ⟨B, j, none⟩ (.int .i64 (D i))) e B (swp D i j) where
  env := h.env.off (S := (· = B)) (((Off.refl (· = B) w).setCell (p := ⟨B, i, none⟩) rfl _).setCell (p := ⟨B, j, none⟩) rfl _) (fun k hk he => h.ne.1 (he ▸ hk)) (fun he => h.ne.2 he.symm)
  dat := fun k hk => by
    have n1 : ∀ a b : Nat, a ≠ b → (⟨B, a, none⟩ : Addr) ≠ ⟨B, b, none⟩ := fun a b hn he => hn (by injection he)
    unfold swp
    by_cases h1 : k = i
    · subst h1
      rw [if_pos rfl, World.cell?_setCell_other _ _ _ _ (n1 _ _ (Ne.symm hij))]
      exact World.cell?_setCell_same _ _ _ (h.dat k hk)
    · rw [if_neg h1]
      by_cases h2 : k = j
      · subst h2
        rw [if_pos rfl]
        exact World.cell?_setCell_same _ _ _ ((World.cell?_setCell_other _ _ _ _ (n1 _ _ hij)).trans (h.dat k hk))
      · rw [if_neg h2, World.cell?_setCell_other _ _ _ _ (n1 _ _ (Ne.symm h2)), World.cell?_setCell_other _ _ _ _ (n1 _ _ (Ne.symm h1))]
        exact h.dat k hk
  fz := fun k => by rw [World.frozen?_setCell, World.frozen?_setCell]; exact h.fz k
  rng := fun k hk => by
    unfold swp
    split
    · exact h.rng j hj
    · split
      · exact h.rng i hi
      · exact h.rng k hk
  ne := h.ne
theorem DS.cmp {w w' : World} {e : Env} {B : Nat} {D : Nat → Int} (h : DS w e B D) (h1 : EnvAt w' e) (ho : Off (· = e.cN) w w') (hn : 0 < e.n) : DS w' e B D :=
  have hl := lt_of_cell (h.dat 0 hn)
  ⟨h1, fun i hi => (ho.cell (p := ⟨B, i, none⟩) hl h.ne.2).trans (h.dat i hi), fun j => (ho.frozen (p := ⟨B, j, none⟩) hl h.ne.2).trans (h.fz j), h.rng, h.ne⟩

def SwpPost (e : Env) (B : Nat) (D : Nat → Int) (w : World) (en : Ending) (w' : World) : Prop := en = .returned (.tuple #[]) ∧ DS w' e B D ∧ Off (SBl e B) w w'

set_option maxHeartbeats 2000000 in
theorem swapRange_any {K : Nat} (w : World) (e : Env) (B a b n : Nat) (D : Nat → Int) (cmp : Value) (h : DS w e B D) (h1 : a + n ≤ b) (h2 : b + n ≤ e.n) :
    Calls Try.prog 19 #[.slice (some ⟨B, 0, none⟩) e.n K, .int .i64 a, .int .i64 b, .int .i64 n, cmp] w (SwpPost e B (swpR D a b n) w) := by
  have hm := h.env.most
  have H0 : Hid (DS w e B (swpR D a b 0) ∧ Off (SBl e B) w w) := ⟨by rw [swpR_zero]; exact h, Off.refl _ _⟩
  clear h
  go_enter Try.func19, Try.ntmps19
  go_wp2
  go_loopw [10] (fun i wr => ∃ k : Nat, k ≤ n ∧ i = .int .i64 k ∧ DS wr e B (swpR D a b k) ∧ Off (SBl e B) w wr) (fun i _ => n - (intOf i).toNat)
  case atStart => exact ⟨0, Nat.zero_le _, rfl, H0.out.1, H0.out.2⟩
  case round =>
    obtain ⟨k, hk, rfl, hd, ho⟩ := hrel
    clear H0
    by_cases hlt : k < n
    · have c0 := hd.dat (a + k) (by omega)
      have c1 := hd.dat (b + k) (by omega)
      have z0 := hd.fz (a + k)
      have z1 := hd.fz (b + k)
      have i0 : (0 : Int) ≤ (a : Int) + (k : Int) := by omega
      have i1 : (a : Int) + (k : Int) < (e.n : Int) := by omega
      have i2 : (0 : Int) ≤ (b : Int) + (k : Int) := by omega
      have i3 : (b : Int) + (k : Int) < (e.n : Int) := by omega
      have HX : Hid (∀ W, W = (wr.drew.setCell ⟨B, a + k, none⟩ (.int .i64 (swpR D a b k (b + k)))).setCell ⟨B, b + k, none⟩ (.int .i64 (swpR D a b k (a + k))) → DS W e B (swpR D a b (k + 1)) ∧ Off (SBl e B) w W) := by
        rintro W rfl
        refine ⟨?_, (ho.drew.setCell (.inl rfl) _).setCell (.inl rfl) _⟩
        rw [← swpR_succ D a b k (by omega)]
        exact hd.drew.swap (by omega) (by omega) (by omega)
      clear hd ho
      go_wp2
      go_region
      go_wp2
      go_roundw
      case rel => exact ⟨k + 1, by omega, by go_num, (HX.out _ rfl).1, (HX.out _ rfl).2⟩
      case measure => simp [intOf]; omega
    · obtain rfl : n = k := by omega
      have HX : Hid (DS wr e B (swpR D a b n) ∧ Off (SBl e B) w wr) := ⟨hd, ho⟩
      clear hd ho
      go_wp2
      go_end0
      exact ⟨rfl, HX.out.1, HX.out.2⟩
end Go.Proofs.Yteckbhpjhohanaa
