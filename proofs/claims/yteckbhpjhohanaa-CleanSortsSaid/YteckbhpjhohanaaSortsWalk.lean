/- The walk of CleanSorts. -/
import Derived.Test.YteckbhpjhohanaaSF
import Derived.Test.YteckbhpjhohanaaC
namespace Go.Proofs.Yteckbhpjhohanaa
open Go.RowKit
set_option linter.unusedVariables false
set_option linter.unusedSimpArgs false

/-- The law's boxes: its list, by, odd. -/
structure Bx (w : World) (n c : Nat) (A : Option Addr) (L : Nat → Int) (div : Int) (odd : Bool) (W : World) : Prop where
  hL : W.cell? ⟨w.heap.size, 0, none⟩ = some (.slice A n c)
  hB : W.cell? ⟨w.heap.size + 1, 0, none⟩ = some (.int .i64 div)
  hO : W.cell? ⟨w.heap.size + 1 + 1, 0, none⟩ = some (.bool odd)
  zB : W.frozen? ⟨w.heap.size + 1, 0, none⟩ = false
  ls : SI W A n L
  far : ∀ b o, 0 < n → A = some ⟨b, o, none⟩ → b < w.heap.size
  bel : Below w.heap.size w W
theorem Bx.up {w W W' : World} {n c : Nat} {A : Option Addr} {L : Nat → Int} {div : Int} {odd : Bool} (h : Bx w n c A L div odd W) (hb : Below W.heap.size W W') : Bx w n c A L div odd W' :=
  ⟨(hb.cell (lt_of_cell h.hL)).trans h.hL, (hb.cell (lt_of_cell h.hB)).trans h.hB, (hb.cell (lt_of_cell h.hO)).trans h.hO, (hb.frozen (p := ⟨w.heap.size + 1, 0, none⟩) (lt_of_cell h.hB)).trans h.zB, h.ls.off (S := fun _ => False) (Off.of_below hb) (fun _ _ _ => id), h.far, below_upto h.bel hb (Nat.le_refl _)⟩
theorem alloc_at (w : World) (v : Value) (t : TypeId) : (w.alloc (.cells #[v] t)).cell? ⟨w.heap.size, 0, none⟩ = some v ∧ (w.alloc (.cells #[v] t)).frozen? ⟨w.heap.size, 0, none⟩ = false := by
  have b3 : (w.alloc (.cells #[v] t)).heap[w.heap.size]? = some (.cells #[v] t (0, 0)) := heap_alloc_new w _
  refine ⟨by rw [cell_of_row _ _ _ _ _ _ b3]; rfl, ?_⟩
  unfold World.frozen?; rw [b3]; simp
theorem alloc_keep {w : World} {b : Nat} {v : Value} (h : w.cell? ⟨b, 0, none⟩ = some v) (o : Obj) : (w.alloc o).cell? ⟨b, 0, none⟩ = some v :=
  (((Below.refl _ w).alloc (Nat.le_refl _) o).cell (p := ⟨b, 0, none⟩) (lt_of_cell h)).trans h
theorem alloc_keepz {w : World} {b : Nat} {v : Value} (h : w.cell? ⟨b, 0, none⟩ = some v) (z : w.frozen? ⟨b, 0, none⟩ = false) (o : Obj) : (w.alloc o).frozen? ⟨b, 0, none⟩ = false :=
  (((Below.refl _ w).alloc (Nat.le_refl _) o).frozen (p := ⟨b, 0, none⟩) (lt_of_cell h)).trans z
theorem bx_new {w : World} {n c : Nat} {A : Option Addr} {L : Nat → Int} {div : Int} {odd : Bool} (h : SI w A n L) :
    Bx w n c A L div odd (((w.alloc (.cells #[.slice A n c] 22)).alloc (.cells #[.int .i64 div] 3)).alloc (.cells #[.bool odd] 4)) := by
  have b : Below w.heap.size w (((w.alloc (.cells #[.slice A n c] 22)).alloc (.cells #[.int .i64 div] 3)).alloc (.cells #[.bool odd] 4)) :=
    (((Below.refl _ _).alloc (Nat.le_refl _) _).alloc (by simp) _).alloc (by simp; omega) _
  have e1 := (alloc_at w (.slice A n c) 22).1
  have e2 := alloc_at (w.alloc (.cells #[.slice A n c] 22)) (.int .i64 div) 3
  have e3 := alloc_at ((w.alloc (.cells #[.slice A n c] 22)).alloc (.cells #[.int .i64 div] 3)) (.bool odd) 4
  simp only [World.size_alloc] at e2 e3
  refine ⟨alloc_keep (alloc_keep e1 _) _, alloc_keep e2.1 _, e3.1, alloc_keepz e2.1 e2.2 _, h.off (S := fun _ => False) (Off.of_below b) (fun _ _ _ => id), fun b o hp hA => ?_, b⟩
  obtain ⟨b', o', h1, h2, _⟩ := h hp
  rw [hA] at h1
  cases h1
  exact h2
/-- What lies behind the boxes is written. -/
theorem Bx.off {w W W' : World} {n c : Nat} {A : Option Addr} {L : Nat → Int} {div : Int} {odd : Bool} {S : Nat → Prop} (h : Bx w n c A L div odd W) (ho : Off S W W') (hS : ∀ k, S k → w.heap.size + 1 + 1 < k) : Bx w n c A L div odd W' := by
  have f : ∀ k, k ≤ w.heap.size + 1 + 1 → ¬ S k := fun k hk hs => by have := hS k hs; omega
  refine ⟨(ho.cell (lt_of_cell h.hL) (f _ (by simp; omega))).trans h.hL, (ho.cell (lt_of_cell h.hB) (f _ (by simp))).trans h.hB, (ho.cell (lt_of_cell h.hO) (f _ (by simp))).trans h.hO, (ho.frozen (p := ⟨w.heap.size + 1, 0, none⟩) (lt_of_cell h.hB) (f _ (by simp))).trans h.zB, fun hp => ?_, h.far, h.bel.trans (ho.below (fun k hk => by have := hS k hk; omega) h.bel.size)⟩
  obtain ⟨b, o, hA, hb, hc⟩ := h.ls hp
  have hf := h.far b o hp hA
  exact ⟨b, o, hA, Nat.lt_of_lt_of_le hb ho.size, fun k hk => (ho.cell (p := ⟨b, o + k, none⟩) hb (f _ (by simp; omega))).trans (hc k hk)⟩
/-- by is written. -/
theorem Bx.set {w W : World} {n c : Nat} {A : Option Addr} {L : Nat → Int} {div : Int} {odd : Bool} (h : Bx w n c A L div odd W) (x : Int) : Bx w n c A L x odd (W.setCell ⟨w.heap.size + 1, 0, none⟩ (.int .i64 x)) := by
  have ho : Off (· = w.heap.size + 1) W (W.setCell ⟨w.heap.size + 1, 0, none⟩ (.int .i64 x)) := (Off.refl (· = w.heap.size + 1) W).setCell (p := ⟨w.heap.size + 1, 0, none⟩) rfl _
  refine ⟨(ho.cell (lt_of_cell h.hL) (by show ¬ _ = _; simp)).trans h.hL, World.cell?_setCell_same _ _ _ h.hB, (ho.cell (lt_of_cell h.hO) (by show ¬ _ = _; simp)).trans h.hO, by rw [World.frozen?_setCell]; exact h.zB, fun hp => ?_, h.far, h.bel.trans (ho.below (fun k hk => by omega) h.bel.size)⟩
  obtain ⟨b, o, hA, hb, hc⟩ := h.ls hp
  have hf := h.far b o hp hA
  exact ⟨b, o, hA, Nat.lt_of_lt_of_le hb ho.size, fun k hk => (ho.cell (p := ⟨b, o + k, none⟩) hb (by show ¬ _ = _; simp; omega)).trans (hc k hk)⟩

/-- What a number is worth. -/
def wor (L : Nat → Int) (d : Int) (j : Nat) : Int := wrap64 ((L j).tdiv d)
/-- What the sort answers: the places' numbers E. -/
structure Fin (n : Nat) (L : Nat → Int) (d : Int) (odd : Bool) (E : Nat → Nat) : Prop where
  lt : ∀ i, i < n → E i < n
  inj : ∀ i j, i < n → j < n → E i = E j → i = j
  ord : odd = false → ∀ i, i + 1 < n → wor L d (E i) < wor L d (E (i + 1)) ∨ (wor L d (E i) = wor L d (E (i + 1)) ∧ E i < E (i + 1))
def HerePost (w : World) (n c : Nat) (A : Option Addr) (L : Nat → Int) (d : Int) (odd : Bool) (g : Nat) (W : World) (en : Ending) (w' : World) : Prop :=
  ∃ B K E, en = .returned (.slice (some ⟨B, 0, none⟩) n K) ∧ W.heap.size ≤ B ∧ Fin n L d odd E ∧ (∀ i, i < n → w'.cell? ⟨B, i, none⟩ = some (.int .i64 (E i))) ∧ (∀ i, i < n → w'.cell? ⟨g, i, none⟩ = some (.int .i64 i)) ∧ Bx w n c A L d odd w'
theorem sort_here {w wr : World} {n c g cap : Nat} {A : Option Addr} {L : Nat → Int} {d : Int} {odd : Bool} (h : Bx w n c A L d odd wr) (hn : 0 < n) (hm : n ≤ 200) (hd : 1 ≤ d) (hc : ∀ i, i < n → wr.cell? ⟨g, i, none⟩ = some (.int .i64 i)) :
    Calls Try.prog 5 #[.slice (some ⟨g, 0, none⟩) n cap, .func (.func 6) #[] #[.pointer (some ⟨wr.heap.size, 0, none⟩), .pointer (some ⟨w.heap.size + 1 + 1, 0, none⟩), .pointer (some ⟨w.heap.size, 0, none⟩), .pointer (some ⟨w.heap.size + 1, 0, none⟩)]]
      (wr.alloc (.cells #[.int .i64 0] 3)) (HerePost w n c A L d odd g (wr.alloc (.cells #[.int .i64 0] 3))) := by
  have hb : Below wr.heap.size wr (wr.alloc (.cells #[.int .i64 0] 3)) := (Below.refl _ _).alloc (Nat.le_refl _) _
  have hx := h.up hb
  have e1 := alloc_at wr (.int .i64 0) 3
  have hl := lt_of_cell h.hO
  have hg := lt_of_cell (hc 0 hn)
  have hc' : ∀ i, i < n → (wr.alloc (.cells #[.int .i64 0] 3)).cell? ⟨g, i, none⟩ = some (.int .i64 i) := fun i hi => (hb.cell (p := ⟨g, i, none⟩) hg).trans (hc i hi)
  let e : Env := { cN := wr.heap.size, cO := w.heap.size + 1 + 1, cL := w.heap.size, cB := w.heap.size + 1, cF := 0, odd := odd, div := d, n := n, cap := c, A := A, L := L }
  have hp : PreAt (wr.alloc (.cells #[.int .i64 0] 3)) e := by
    refine ⟨⟨0, e1.1⟩, e1.2, hx.hO, hx.hL, hx.hB, hx.ls, ⟨?_, ?_, ?_, fun o ho => ?_⟩, hd, hm⟩
    · show wr.heap.size ≠ w.heap.size + 1 + 1; omega
    · show wr.heap.size ≠ w.heap.size; omega
    · show wr.heap.size ≠ w.heap.size + 1; omega
    · have := h.far _ o hn ho
      have : wr.heap.size < w.heap.size := this
      omega
  refine (sort_any (g := g) (c := cap) _ e (fun i => (i : Int)) hp hn hc' (fun i hi => ⟨i, rfl, hi⟩)).mono ?_
  rintro en w' ⟨B, K, D', rfl, hB, hpm, hs, hr, ho⟩
  obtain ⟨p, p1, p2, p3, p4⟩ := hpm
  refine ⟨B, K, p, rfl, hB, ⟨fun i hi => (p1 i (Nat.zero_le _) hi).2, fun i j _ _ he => p2 i j he, fun h0 i hi => ?_⟩, fun i hi => by rw [hr i hi, p4], fun i hi => ?_, ?_⟩
  · have := hs h0 (fun a b _ hab _ => by simp; omega) i (i + 1) (Nat.zero_le _) (by omega) hi
    have ev : ∀ x : Nat, e.val (x : Int) = wor L d x := fun x => by simp [Env.val, wor, e]
    simp only [p4, Lt, ev] at this
    rcases this with q | ⟨q1, q2⟩
    · exact .inl q
    · exact .inr ⟨q1, by omega⟩
  · rw [ho.cell (p := ⟨g, i, none⟩) (by simp; omega) (by show ¬ g = wr.heap.size; omega)]
    exact hc' i hi
  · exact hx.off ho (fun k hk => by have : k = wr.heap.size := hk; omega)

open Classical in
/-- Whether j was had among the first k. -/
noncomputable def mk (E : Nat → Nat) (k j : Nat) : Bool := decide (∃ i, i < k ∧ E i = j)
theorem mk_zero (E : Nat → Nat) (j : Nat) : mk E 0 j = false := by simp [mk]
theorem mk_same (E : Nat → Nat) (k : Nat) : mk E (k + 1) (E k) = true := by simp only [mk, decide_eq_true_eq]; exact ⟨k, by omega, rfl⟩
theorem mk_other (E : Nat → Nat) (k j : Nat) (h : j ≠ E k) : mk E (k + 1) j = mk E k j := by
  unfold mk
  congr 1
  apply propext
  constructor
  · rintro ⟨i, h1, h2⟩
    refine ⟨i, ?_, h2⟩
    rcases Nat.lt_or_ge i k with h3 | h3
    · exact h3
    · have : i = k := by omega
      subst this
      exact absurd h2.symm h
  · rintro ⟨i, h1, h2⟩
    exact ⟨i, by omega, h2⟩
theorem mk_new {n : Nat} {L : Nat → Int} {d : Int} {odd : Bool} {E : Nat → Nat} (h : Fin n L d odd E) {k : Nat} (hk : k < n) : mk E k (E k) = false := by
  simp only [mk, decide_eq_false_iff_not]
  rintro ⟨i, h1, h2⟩
  have := h.inj i k (by omega) hk h2
  omega
structure Mk (w : World) (n c : Nat) (A : Option Addr) (L : Nat → Int) (d : Int) (odd : Bool) (g B H : Nat) (E : Nat → Nat) (k : Nat) (W : World) : Prop where
  bx : Bx w n c A L d odd W
  r1 : ∀ i, i < n → W.cell? ⟨B, i, none⟩ = some (.int .i64 (E i))
  r2 : ∀ i, i < n → W.cell? ⟨g, i, none⟩ = some (.int .i64 i)
  rh : ∀ j, j < n → W.cell? ⟨H, j, none⟩ = some (.bool (mk E k j))
  zh : ∀ j, W.frozen? ⟨H, j, none⟩ = false
  ne : B ≠ H ∧ g ≠ H ∧ w.heap.size + 1 + 1 < H
section
variable {w W : World} {n c : Nat} {A : Option Addr} {L : Nat → Int} {d : Int} {odd : Bool} {g B H : Nat} {E : Nat → Nat} {k : Nat}
theorem Mk.start (hb : Bx w n c A L d odd W) (h1 : ∀ i, i < n → W.cell? ⟨B, i, none⟩ = some (.int .i64 (E i))) (h2 : ∀ i, i < n → W.cell? ⟨g, i, none⟩ = some (.int .i64 i)) (hn : 0 < n) (t : TypeId) :
    Mk w n c A L d odd g B W.heap.size E 0 (W.alloc (.cells (Array.replicate n (.bool false)) t)) := by
  have hB : Below W.heap.size W (W.alloc (.cells (Array.replicate n (.bool false)) t)) := (Below.refl _ _).alloc (Nat.le_refl _) _
  have b3 : (W.alloc (.cells (Array.replicate n (.bool false)) t)).heap[W.heap.size]? = some (.cells (Array.replicate n (.bool false)) t (0, 0)) := heap_alloc_new W _
  have l1 := lt_of_cell (h1 0 hn)
  have l2 := lt_of_cell (h2 0 hn)
  have l3 := lt_of_cell hb.hO
  refine ⟨hb.up hB, fun i hi => (hB.cell (p := ⟨B, i, none⟩) l1).trans (h1 i hi), fun i hi => (hB.cell (p := ⟨g, i, none⟩) l2).trans (h2 i hi), fun j hj => ?_, fun j => ?_, by omega, by omega, l3⟩
  · rw [cell_of_row _ _ _ _ _ _ b3, mk_zero]
    simp [hj]
  · unfold World.frozen?; rw [b3]; simp
theorem Mk.step (h : Mk w n c A L d odd g B H E k W) (hk : k < n) (hE : E k < n) : Mk w n c A L d odd g B H E (k + 1) (W.setCell ⟨H, E k, none⟩ (.bool true)) := by
  have ho : Off (· = H) W (W.setCell ⟨H, E k, none⟩ (.bool true)) := (Off.refl (· = H) W).setCell (p := ⟨H, E k, none⟩) rfl _
  obtain ⟨n1, n2, n3⟩ := h.ne
  refine ⟨h.bx.off ho (fun i hi => by have : i = H := hi; omega), fun i hi => (ho.cell (p := ⟨B, i, none⟩) (lt_of_cell (h.r1 i hi)) n1).trans (h.r1 i hi), fun i hi => (ho.cell (p := ⟨g, i, none⟩) (lt_of_cell (h.r2 i hi)) n2).trans (h.r2 i hi), fun j hj => ?_, fun j => by rw [World.frozen?_setCell]; exact h.zh j, h.ne⟩
  by_cases hj2 : j = E k
  · subst hj2
    rw [mk_same]
    exact World.cell?_setCell_same _ _ _ (h.rh _ hE)
  · rw [World.cell?_setCell_other _ _ _ _ (fun he => hj2 (by injection he with e1 e2; exact e2.symm)), mk_other E k j hj2]
    exact h.rh j hj
theorem Mk.up {W' : World} (h : Mk w n c A L d odd g B H E k W) (hn : 0 < n) (hb : Below W.heap.size W W') : Mk w n c A L d odd g B H E k W' := by
  have lh := lt_of_cell (h.rh 0 hn)
  exact ⟨h.bx.up hb, fun i hi => (hb.cell (p := ⟨B, i, none⟩) (lt_of_cell (h.r1 i hi))).trans (h.r1 i hi), fun i hi => (hb.cell (p := ⟨g, i, none⟩) (lt_of_cell (h.r2 i hi))).trans (h.r2 i hi), fun j hj => (hb.cell (p := ⟨H, j, none⟩) lh).trans (h.rh j hj), fun j => (hb.frozen (p := ⟨H, j, none⟩) lh).trans (h.zh j), h.ne⟩
theorem Mk.drewN (h : Mk w n c A L d odd g B H E k W) (hn : 0 < n) (m : Nat) : Mk w n c A L d odd g B H E k (W.drewN m) := h.up hn (below_drewN (Below.refl _ _) m)
end

set_option maxRecDepth 100000 in
set_option maxHeartbeats 8000000 in
theorem sorts_a (w : World) (n c : Nat) (A : Option Addr) (L : Nat → Int) (good : n ≤ 200) (hL : SI w A n L) (div : Int) (odd : Bool) (d : Int) (g1 : 1 ≤ div) (g2 : div ≤ 1073741824) (hd : d = div) :
    Calls Try.prog 3 #[.slice A n c, .int .i64 div, .bool odd] w fun e w' => e = .returned (.bool true) ∧ Below w.heap.size w w' := by
  have HB0 := Lib.hid (bx_new (c := c) (div := div) (odd := odd) hL)
  clear hL
  obtain ⟨i0, hi, hz0, hz1, hz2⟩ := info_parts int_info
  have HD1 : Hid (1 ≤ d) := Lib.hid (by omega)
  go_enter Try.func3, Try.ntmps3
  go_wp2_with fail
  refine (known_any _).mono ?_
  rintro e w1 ⟨rfl, hb1⟩
  have HX := Lib.hid (HB0.out.up hb1)
  have hL := HX.out.hL
  have hB := HX.out.hB
  have zB := HX.out.zB
  clear hb1 HB0
  have g3 : decide (div < 1) = false := by simp; omega
  have g4 : decide (div > 1073741824) = false := by simp; omega
  have HY : Hid (Bx w n c A L d odd w1) := by rw [hd]; exact HX.out
  go_upto_region 7 with (fail)
  refine wp_forget (fun W => Bx w n c A L d odd W) HY.out ?_
  clear HY HX hL hB zB hd
  intro w2 hx
  have HX := Lib.hid hx
  have hlt := lt_of_cell hx.hO
  clear hx
  go_wp2
  go_loopw [7, 8] (fun v i wr => ∃ k : Nat, k ≤ n ∧ i = .int .i64 k ∧ (k = 0 → v = .slice none 0 0) ∧ wr.ownsRow w2.heap.size 3 1 v k (rowI (fun i => i) k) ∧ Below w2.heap.size w2 wr) (fun _ i _ => n - (intOf i).toNat)
  case atStart => exact ⟨0, Nat.zero_le _, rfl, fun _ => rfl, World.ownsRow_nil _ _ _ _, Below.refl _ _⟩
  case round =>
    obtain ⟨k, hk, rfl, hv0, hown, hb⟩ := hrel
    have HV := Lib.hid hv0
    have HO := Lib.hid hown
    have Hb := Lib.hid hb
    have HY := Lib.hid (HX.out.up hb)
    have hL := HY.out.hL
    have hs := hb.size
    clear hv0 hown hb
    by_cases hkn : k < n
    · go_wp2_with (at_builtin; go_must (refine wpList_append_lies _ rfl (.tmp 30) (.tmp 32) 22 rfl w2.heap.size 3 i0 _ 1 8 Try.underlying22 hi hz0 hz1 hz2 rfl (by omega) _ k (rowI (fun i => i) k) rfl (HO.out.alloc _) ⟨wr.heap.size, 0, none⟩ 1 1 [.int .i64 k] rfl rfl (cell_one_new _ _ _) (by simp [Value.oneCell']) (by omega) (by unfold maxLen; omega) (by omega) (by simp; omega) (wr.heap.size + 1) (by simp) ?_); intro gg cap w3 hown hgrow hat hlt3)
      rw [rowI_succ (fun i => i) k] at hown
      have HZ : Hid (w3.ownsRow w2.heap.size 3 1 (.slice (some ⟨gg, 0, none⟩) (k + 1) cap) (k + 1) (rowI (fun i => i) (k + 1)) ∧ Below w2.heap.size w2 w3) := ⟨hown, Below.grown (Hb.out.alloc hs _) hgrow (Nat.le_trans hs (by simp)) fun i h => (HO.out.lt _ h).1⟩
      clear hown hgrow hat hlt3 HO Hb HY HV
      go_wp2
      go_roundw
      case rel => exact ⟨k + 1, by omega, by go_num, fun h => by omega, HZ.out.1, HZ.out.2⟩
      case measure => simp [intOf]; omega
    · obtain rfl : n = k := by omega
      have HG : Hid (0 < n → ∃ g cap, u7 = .slice (some ⟨g, 0, none⟩) n cap ∧ g < wr.heap.size ∧ ∀ i, i < n → wr.cell? ⟨g, i, none⟩ = some (.int .i64 i)) := fun hp => by
        obtain ⟨g, cap, hv, hg1, hg2⟩ := HO.out.form hp
        have ho := HO.out
        rw [hv] at ho
        exact ⟨g, cap, hv, hg2, fun i hi => by rw [ho.cellAt i (by omega), rowI_at hi]⟩
      clear HO Hb hkn hk
      by_cases hp : 0 < n
      case neg =>
        obtain rfl : n = 0 := by omega
        obtain rfl := HV.out rfl
        clear HV HG
        go_wp2_with fail
        refine (sort_none _ _ _).mono ?_
        rintro _ w4 ⟨rfl, hb4⟩
        simp only [World.size_alloc] at hb4
        have HZ : Hid (Bx w 0 c A L d odd w4) := (HY.out.up ((Below.refl _ _).alloc (Nat.le_refl _) _)).up (by rw [World.size_alloc]; exact hb4)
        have hL4 := HZ.out.hL
        have hmk : ∀ w, (Instr.makeSlice 26 (.int .i64 0) (.int .i64 0)).run Try.prog w = .ok (.slice (some ⟨w.heap.size, 0, none⟩) 0 0) (w.alloc (.cells (Array.replicate 0 (.bool false)) 4)) := run_make_bools 0 (by omega)
        have HE : Hid (Below w.heap.size w (w4.alloc (.cells (Array.replicate 0 (.bool false)) 4))) := HZ.out.bel.alloc HZ.out.bel.size _
        clear HY hL hb4
        go_wp2
        go_loopw [12] (fun i wr => i = .int .i64 0 ∧ Below w.heap.size w wr) (fun _ _ => 0)
        case atStart => exact ⟨rfl, HE.out⟩
        case round =>
          obtain ⟨rfl, hb⟩ := hrel
          go_wp2
          go_ret
          exact ⟨rfl, hb⟩
      case pos =>
        obtain ⟨g, cap, rfl, hg, hc⟩ := HG.out hp
        have HS := Lib.hid (sort_here (cap := cap) HY.out hp good HD1.out hc)
        have hg0 := HY.out.bel.size
        clear HV HG hc HY
        go_wp2_with fail
        refine HS.out.mono ?_
        rintro _ w4 ⟨B, K, E, rfl, hB, hf, r1, r2, hx4⟩
        simp only [World.size_alloc] at hB
        have HF := Lib.hid hf
        have HM := Lib.hid (Mk.start hx4 r1 r2 hp 4)
        have hL4 := hx4.hL
        have hmk := run_make_bools n (by omega)
        clear hf r1 r2 hx4 hL HS hg hB
        go_wp2
        clear hmk hL4
        go_loopw [12] (fun i wr => ∃ k : Nat, k ≤ n ∧ i = .int .i64 k ∧ Mk w n c A L d odd g B w4.heap.size E k wr) (fun i _ => n - (intOf i).toNat)
        case atStart => exact ⟨0, Nat.zero_le _, rfl, HM.out⟩
        case round =>
          obtain ⟨k, hk, rfl, hM⟩ := hrel
          clear HM
          have HM := Lib.hid hM
          clear hM
          by_cases hkn : k < n
          · obtain ⟨b, o, rfl, hb, hrow⟩ := HM.out.bx.ls hp
            have c0 := HM.out.r1 k hkn
            have c1 := HM.out.r2 k hkn
            have hx := HF.out.lt k hkn
            have c2 := HM.out.rh (E k) hx
            rw [mk_new HF.out hkn] at c2
            have z2 := HM.out.zh (E k)
            have hL := HM.out.bx.hL
            have hB := HM.out.bx.hB
            have hO := HM.out.bx.hO
            have c4 := hrow (E k) hx
            clear hrow
            have d0 : decide ((E k : Int) < 0) = false := by simp
            have d1 : decide ((n : Int) ≤ (E k : Int)) = false := by simp; omega
            have d2 : ((k : Int) != (k : Int)) = false := by simp
            have i0 : (0 : Int) ≤ (E k : Int) := by omega
            have i1 : (E k : Int) < (n : Int) := by omega
            have HS2 : Hid (∀ m, Mk w n c (some ⟨b, o, none⟩) L d odd g B w4.heap.size E (k + 1) ((wr.drewN m).setCell ⟨w4.heap.size, E k, none⟩ (.bool true))) := fun m => (HM.out.drewN hp m).step hkn hx
            go_upto_region 20 with (fail)
            go_quiet (fail)
            clear d0 d1 d2
            go_upto_region 23 with (fail)
            refine wp_forget (fun W => Mk w n c (some ⟨b, o, none⟩) L d odd g B w4.heap.size E (k + 1) W) (by first | exact HS2.out _ | exact (HS2.out 0) | trace_state) ?_
            clear HS2 HM c0 c1 c2 z2 hL hB hO c4 i0 i1
            intro w5 hM
            have HM := Lib.hid hM
            obtain ⟨b', o', hbo, hb', hrow⟩ := hM.bx.ls hp
            cases hbo
            have hL := hM.bx.hL
            have hB := hM.bx.hB
            have hO := hM.bx.hO
            have hd0 : (d == 0) = false := by have := HD1.out; simp; omega
            have c0 := hM.r1 k hkn
            have c4 := hrow (E k) hx
            cases hod : odd
            case true =>
              subst hod
              clear hM hrow
              have HW : Hid (∀ m, Mk w n c (some ⟨b, o, none⟩) L d true g B w4.heap.size E (k + 1) (w5.drewN m)) := fun m => HM.out.drewN hp m
              clear HM
              go_quiet (fail)
              go_wp2
              go_roundw
              case rel => exact ⟨k + 1, by omega, by go_num, HW.out _⟩
              case measure => simp [intOf]; omega
            case false =>
              subst hod
              by_cases hk0 : 0 < k
              case neg =>
                obtain rfl : k = 0 := by omega
                clear hM hrow
                have HW : Hid (∀ m, Mk w n c (some ⟨b, o, none⟩) L d false g B w4.heap.size E (0 + 1) (w5.drewN m)) := fun m => HM.out.drewN hp m
                clear HM
                go_quiet (fail)
                go_wp2
                go_roundw
                case rel => exact ⟨0 + 1, by omega, by go_num, HW.out _⟩
                case measure => simp [intOf]; omega
              case pos =>
                have hy := HF.out.lt (k - 1) (by omega)
                have c5 := hM.r1 (k - 1) (by omega)
                have c6 := hrow (E (k - 1)) hy
                clear hM hrow
                have HW : Hid (∀ m, Mk w n c (some ⟨b, o, none⟩) L d false g B w4.heap.size E (k + 1) (w5.drewN m)) := fun m => HM.out.drewN hp m
                have ho := HF.out.ord rfl (k - 1) (by omega)
                rw [show k - 1 + 1 = k by omega] at ho
                have HOr := Lib.hid ho
                clear HM ho
                have k1 : (0 : Int) ≤ (k : Int) - 1 := by omega
                have k2 : (k : Int) - 1 < (n : Int) := by omega
                have k3 : ((k : Int) - 1).toNat = k - 1 := by omega
                have k4 : (1 : Int) ≤ (k : Int) := by omega
                have k6 : IntKind.i64.wrap ((k : Int) - 1) = (k : Int) - 1 := IntWalk.i64_in _ (by omega)
                have k7 : decide ((0 : Int) < (k : Int)) = true := by simp; omega
                have hd1 := HD1.out
                have x0 : (0 : Int) ≤ (E k : Int) := by omega
                have x1 : (E k : Int) < (n : Int) := by omega
                have y0 : (0 : Int) ≤ (E (k - 1) : Int) := by omega
                have y1 : (E (k - 1) : Int) < (n : Int) := by omega
                rcases HOr.out with ho | ⟨ho, ho2⟩
                · unfold wor at ho
                  have f1 : decide (wrap64 ((L (E k)).tdiv d) < wrap64 ((L (E (k - 1))).tdiv d)) = false := by simp only [decide_eq_false_iff_not]; omega
                  have f2 : (wrap64 ((L (E k)).tdiv d) == wrap64 ((L (E (k - 1))).tdiv d)) = false := by simp only [beq_eq_false_iff_ne]; omega
                  clear ho HOr
                  go_quiet (fail)
                  go_wp2
                  go_roundw
                  case rel => exact ⟨k + 1, by omega, by go_num, HW.out _⟩
                  case measure => simp [intOf]; omega
                · unfold wor at ho
                  have f1 : decide (wrap64 ((L (E k)).tdiv d) < wrap64 ((L (E (k - 1))).tdiv d)) = false := by simp only [decide_eq_false_iff_not]; omega
                  have f2 : (wrap64 ((L (E k)).tdiv d) == wrap64 ((L (E (k - 1))).tdiv d)) = true := by simp only [beq_iff_eq]; omega
                  have f3 : decide ((E k : Int) < (E (k - 1) : Int)) = false := by simp only [decide_eq_false_iff_not]; omega
                  have f4 : decide (E k < E (k - 1)) = false := by simp only [decide_eq_false_iff_not]; omega
                  have f5 : ¬ E k < E (k - 1) := by omega
                  clear ho HOr
                  go_quiet (fail)
                  go_wp2
                  go_roundw
                  case rel => exact ⟨k + 1, by omega, by go_num, HW.out _⟩
                  case measure => simp [intOf]; omega
          · have hb := HM.out.bx.bel
            have HZ := Lib.hid hb
            clear hb HM
            go_wp2
            go_ret
            exact ⟨rfl, HZ.out⟩

set_option maxRecDepth 100000 in
set_option maxHeartbeats 8000000 in
theorem sorts_b (w : World) (n c : Nat) (A : Option Addr) (L : Nat → Int) (good : n ≤ 200) (hL : SI w A n L) (div : Int) (odd : Bool) (d : Int) (g1 : div ≤ 0) (hd : d = 1) :
    Calls Try.prog 3 #[.slice A n c, .int .i64 div, .bool odd] w fun e w' => e = .returned (.bool true) ∧ Below w.heap.size w w' := by
  have HB0 := Lib.hid (bx_new (c := c) (div := div) (odd := odd) hL)
  clear hL
  obtain ⟨i0, hi, hz0, hz1, hz2⟩ := info_parts int_info
  have HD1 : Hid (1 ≤ d) := Lib.hid (by omega)
  go_enter Try.func3, Try.ntmps3
  go_wp2_with fail
  refine (known_any _).mono ?_
  rintro e w1 ⟨rfl, hb1⟩
  have HX := Lib.hid (HB0.out.up hb1)
  have hL := HX.out.hL
  have hB := HX.out.hB
  have zB := HX.out.zB
  clear hb1 HB0
  have HY : Hid (Bx w n c A L d odd (w1.setCell ⟨w.heap.size + 1, 0, none⟩ (.int .i64 1))) := by rw [hd]; exact HX.out.set 1
  go_upto_region 7 with (fail)
  refine wp_forget (fun W => Bx w n c A L d odd W) HY.out ?_
  clear HY HX hL hB zB hd
  intro w2 hx
  have HX := Lib.hid hx
  have hlt := lt_of_cell hx.hO
  clear hx
  go_wp2
  go_loopw [7, 8] (fun v i wr => ∃ k : Nat, k ≤ n ∧ i = .int .i64 k ∧ (k = 0 → v = .slice none 0 0) ∧ wr.ownsRow w2.heap.size 3 1 v k (rowI (fun i => i) k) ∧ Below w2.heap.size w2 wr) (fun _ i _ => n - (intOf i).toNat)
  case atStart => exact ⟨0, Nat.zero_le _, rfl, fun _ => rfl, World.ownsRow_nil _ _ _ _, Below.refl _ _⟩
  case round =>
    obtain ⟨k, hk, rfl, hv0, hown, hb⟩ := hrel
    have HV := Lib.hid hv0
    have HO := Lib.hid hown
    have Hb := Lib.hid hb
    have HY := Lib.hid (HX.out.up hb)
    have hL := HY.out.hL
    have hs := hb.size
    clear hv0 hown hb
    by_cases hkn : k < n
    · go_wp2_with (at_builtin; go_must (refine wpList_append_lies _ rfl (.tmp 30) (.tmp 32) 22 rfl w2.heap.size 3 i0 _ 1 8 Try.underlying22 hi hz0 hz1 hz2 rfl (by omega) _ k (rowI (fun i => i) k) rfl (HO.out.alloc _) ⟨wr.heap.size, 0, none⟩ 1 1 [.int .i64 k] rfl rfl (cell_one_new _ _ _) (by simp [Value.oneCell']) (by omega) (by unfold maxLen; omega) (by omega) (by simp; omega) (wr.heap.size + 1) (by simp) ?_); intro gg cap w3 hown hgrow hat hlt3)
      rw [rowI_succ (fun i => i) k] at hown
      have HZ : Hid (w3.ownsRow w2.heap.size 3 1 (.slice (some ⟨gg, 0, none⟩) (k + 1) cap) (k + 1) (rowI (fun i => i) (k + 1)) ∧ Below w2.heap.size w2 w3) := ⟨hown, Below.grown (Hb.out.alloc hs _) hgrow (Nat.le_trans hs (by simp)) fun i h => (HO.out.lt _ h).1⟩
      clear hown hgrow hat hlt3 HO Hb HY HV
      go_wp2
      go_roundw
      case rel => exact ⟨k + 1, by omega, by go_num, fun h => by omega, HZ.out.1, HZ.out.2⟩
      case measure => simp [intOf]; omega
    · obtain rfl : n = k := by omega
      have HG : Hid (0 < n → ∃ g cap, u7 = .slice (some ⟨g, 0, none⟩) n cap ∧ g < wr.heap.size ∧ ∀ i, i < n → wr.cell? ⟨g, i, none⟩ = some (.int .i64 i)) := fun hp => by
        obtain ⟨g, cap, hv, hg1, hg2⟩ := HO.out.form hp
        have ho := HO.out
        rw [hv] at ho
        exact ⟨g, cap, hv, hg2, fun i hi => by rw [ho.cellAt i (by omega), rowI_at hi]⟩
      clear HO Hb hkn hk
      by_cases hp : 0 < n
      case neg =>
        obtain rfl : n = 0 := by omega
        obtain rfl := HV.out rfl
        clear HV HG
        go_wp2_with fail
        refine (sort_none _ _ _).mono ?_
        rintro _ w4 ⟨rfl, hb4⟩
        simp only [World.size_alloc] at hb4
        have HZ : Hid (Bx w 0 c A L d odd w4) := (HY.out.up ((Below.refl _ _).alloc (Nat.le_refl _) _)).up (by rw [World.size_alloc]; exact hb4)
        have hL4 := HZ.out.hL
        have hmk : ∀ w, (Instr.makeSlice 26 (.int .i64 0) (.int .i64 0)).run Try.prog w = .ok (.slice (some ⟨w.heap.size, 0, none⟩) 0 0) (w.alloc (.cells (Array.replicate 0 (.bool false)) 4)) := run_make_bools 0 (by omega)
        have HE : Hid (Below w.heap.size w (w4.alloc (.cells (Array.replicate 0 (.bool false)) 4))) := HZ.out.bel.alloc HZ.out.bel.size _
        clear HY hL hb4
        go_wp2
        go_loopw [12] (fun i wr => i = .int .i64 0 ∧ Below w.heap.size w wr) (fun _ _ => 0)
        case atStart => exact ⟨rfl, HE.out⟩
        case round =>
          obtain ⟨rfl, hb⟩ := hrel
          go_wp2
          go_ret
          exact ⟨rfl, hb⟩
      case pos =>
        obtain ⟨g, cap, rfl, hg, hc⟩ := HG.out hp
        have HS := Lib.hid (sort_here (cap := cap) HY.out hp good HD1.out hc)
        have hg0 := HY.out.bel.size
        clear HV HG hc HY
        go_wp2_with fail
        refine HS.out.mono ?_
        rintro _ w4 ⟨B, K, E, rfl, hB, hf, r1, r2, hx4⟩
        simp only [World.size_alloc] at hB
        have HF := Lib.hid hf
        have HM := Lib.hid (Mk.start hx4 r1 r2 hp 4)
        have hL4 := hx4.hL
        have hmk := run_make_bools n (by omega)
        clear hf r1 r2 hx4 hL HS hg hB
        go_wp2
        clear hmk hL4
        go_loopw [12] (fun i wr => ∃ k : Nat, k ≤ n ∧ i = .int .i64 k ∧ Mk w n c A L d odd g B w4.heap.size E k wr) (fun i _ => n - (intOf i).toNat)
        case atStart => exact ⟨0, Nat.zero_le _, rfl, HM.out⟩
        case round =>
          obtain ⟨k, hk, rfl, hM⟩ := hrel
          clear HM
          have HM := Lib.hid hM
          clear hM
          by_cases hkn : k < n
          · obtain ⟨b, o, rfl, hb, hrow⟩ := HM.out.bx.ls hp
            have c0 := HM.out.r1 k hkn
            have c1 := HM.out.r2 k hkn
            have hx := HF.out.lt k hkn
            have c2 := HM.out.rh (E k) hx
            rw [mk_new HF.out hkn] at c2
            have z2 := HM.out.zh (E k)
            have hL := HM.out.bx.hL
            have hB := HM.out.bx.hB
            have hO := HM.out.bx.hO
            have c4 := hrow (E k) hx
            clear hrow
            have d0 : decide ((E k : Int) < 0) = false := by simp
            have d1 : decide ((n : Int) ≤ (E k : Int)) = false := by simp; omega
            have d2 : ((k : Int) != (k : Int)) = false := by simp
            have i0 : (0 : Int) ≤ (E k : Int) := by omega
            have i1 : (E k : Int) < (n : Int) := by omega
            have HS2 : Hid (∀ m, Mk w n c (some ⟨b, o, none⟩) L d odd g B w4.heap.size E (k + 1) ((wr.drewN m).setCell ⟨w4.heap.size, E k, none⟩ (.bool true))) := fun m => (HM.out.drewN hp m).step hkn hx
            go_upto_region 20 with (fail)
            go_quiet (fail)
            clear d0 d1 d2
            go_upto_region 23 with (fail)
            refine wp_forget (fun W => Mk w n c (some ⟨b, o, none⟩) L d odd g B w4.heap.size E (k + 1) W) (by first | exact HS2.out _ | exact (HS2.out 0) | trace_state) ?_
            clear HS2 HM c0 c1 c2 z2 hL hB hO c4 i0 i1
            intro w5 hM
            have HM := Lib.hid hM
            obtain ⟨b', o', hbo, hb', hrow⟩ := hM.bx.ls hp
            cases hbo
            have hL := hM.bx.hL
            have hB := hM.bx.hB
            have hO := hM.bx.hO
            have hd0 : (d == 0) = false := by have := HD1.out; simp; omega
            have c0 := hM.r1 k hkn
            have c4 := hrow (E k) hx
            cases hod : odd
            case true =>
              subst hod
              clear hM hrow
              have HW : Hid (∀ m, Mk w n c (some ⟨b, o, none⟩) L d true g B w4.heap.size E (k + 1) (w5.drewN m)) := fun m => HM.out.drewN hp m
              clear HM
              go_quiet (fail)
              go_wp2
              go_roundw
              case rel => exact ⟨k + 1, by omega, by go_num, HW.out _⟩
              case measure => simp [intOf]; omega
            case false =>
              subst hod
              by_cases hk0 : 0 < k
              case neg =>
                obtain rfl : k = 0 := by omega
                clear hM hrow
                have HW : Hid (∀ m, Mk w n c (some ⟨b, o, none⟩) L d false g B w4.heap.size E (0 + 1) (w5.drewN m)) := fun m => HM.out.drewN hp m
                clear HM
                go_quiet (fail)
                go_wp2
                go_roundw
                case rel => exact ⟨0 + 1, by omega, by go_num, HW.out _⟩
                case measure => simp [intOf]; omega
              case pos =>
                have hy := HF.out.lt (k - 1) (by omega)
                have c5 := hM.r1 (k - 1) (by omega)
                have c6 := hrow (E (k - 1)) hy
                clear hM hrow
                have HW : Hid (∀ m, Mk w n c (some ⟨b, o, none⟩) L d false g B w4.heap.size E (k + 1) (w5.drewN m)) := fun m => HM.out.drewN hp m
                have ho := HF.out.ord rfl (k - 1) (by omega)
                rw [show k - 1 + 1 = k by omega] at ho
                have HOr := Lib.hid ho
                clear HM ho
                have k1 : (0 : Int) ≤ (k : Int) - 1 := by omega
                have k2 : (k : Int) - 1 < (n : Int) := by omega
                have k3 : ((k : Int) - 1).toNat = k - 1 := by omega
                have k4 : (1 : Int) ≤ (k : Int) := by omega
                have k6 : IntKind.i64.wrap ((k : Int) - 1) = (k : Int) - 1 := IntWalk.i64_in _ (by omega)
                have k7 : decide ((0 : Int) < (k : Int)) = true := by simp; omega
                have hd1 := HD1.out
                have x0 : (0 : Int) ≤ (E k : Int) := by omega
                have x1 : (E k : Int) < (n : Int) := by omega
                have y0 : (0 : Int) ≤ (E (k - 1) : Int) := by omega
                have y1 : (E (k - 1) : Int) < (n : Int) := by omega
                rcases HOr.out with ho | ⟨ho, ho2⟩
                · unfold wor at ho
                  have f1 : decide (wrap64 ((L (E k)).tdiv d) < wrap64 ((L (E (k - 1))).tdiv d)) = false := by simp only [decide_eq_false_iff_not]; omega
                  have f2 : (wrap64 ((L (E k)).tdiv d) == wrap64 ((L (E (k - 1))).tdiv d)) = false := by simp only [beq_eq_false_iff_ne]; omega
                  clear ho HOr
                  go_quiet (fail)
                  go_wp2
                  go_roundw
                  case rel => exact ⟨k + 1, by omega, by go_num, HW.out _⟩
                  case measure => simp [intOf]; omega
                · unfold wor at ho
                  have f1 : decide (wrap64 ((L (E k)).tdiv d) < wrap64 ((L (E (k - 1))).tdiv d)) = false := by simp only [decide_eq_false_iff_not]; omega
                  have f2 : (wrap64 ((L (E k)).tdiv d) == wrap64 ((L (E (k - 1))).tdiv d)) = true := by simp only [beq_iff_eq]; omega
                  have f3 : decide ((E k : Int) < (E (k - 1) : Int)) = false := by simp only [decide_eq_false_iff_not]; omega
                  have f4 : decide (E k < E (k - 1)) = false := by simp only [decide_eq_false_iff_not]; omega
                  have f5 : ¬ E k < E (k - 1) := by omega
                  clear ho HOr
                  go_quiet (fail)
                  go_wp2
                  go_roundw
                  case rel => exact ⟨k + 1, by omega, by go_num, HW.out _⟩
                  case measure => simp [intOf]; omega
          · have hb := HM.out.bx.bel
            have HZ := Lib.hid hb
            clear hb HM
            go_wp2
            go_ret
            exact ⟨rfl, HZ.out⟩

set_option maxRecDepth 100000 in
set_option maxHeartbeats 8000000 in
theorem sorts_c (w : World) (n c : Nat) (A : Option Addr) (L : Nat → Int) (good : n ≤ 200) (hL : SI w A n L) (div : Int) (odd : Bool) (d : Int) (g1 : 1073741824 < div) (hd : d = 1) :
    Calls Try.prog 3 #[.slice A n c, .int .i64 div, .bool odd] w fun e w' => e = .returned (.bool true) ∧ Below w.heap.size w w' := by
  have HB0 := Lib.hid (bx_new (c := c) (div := div) (odd := odd) hL)
  clear hL
  obtain ⟨i0, hi, hz0, hz1, hz2⟩ := info_parts int_info
  have HD1 : Hid (1 ≤ d) := Lib.hid (by omega)
  go_enter Try.func3, Try.ntmps3
  go_wp2_with fail
  refine (known_any _).mono ?_
  rintro e w1 ⟨rfl, hb1⟩
  have HX := Lib.hid (HB0.out.up hb1)
  have hL := HX.out.hL
  have hB := HX.out.hB
  have zB := HX.out.zB
  clear hb1 HB0
  have g3 : decide (div < 1) = false := by simp; omega
  have HY : Hid (Bx w n c A L d odd (w1.setCell ⟨w.heap.size + 1, 0, none⟩ (.int .i64 1))) := by rw [hd]; exact HX.out.set 1
  go_upto_region 7 with (fail)
  refine wp_forget (fun W => Bx w n c A L d odd W) HY.out ?_
  clear HY HX hL hB zB hd
  intro w2 hx
  have HX := Lib.hid hx
  have hlt := lt_of_cell hx.hO
  clear hx
  go_wp2
  go_loopw [7, 8] (fun v i wr => ∃ k : Nat, k ≤ n ∧ i = .int .i64 k ∧ (k = 0 → v = .slice none 0 0) ∧ wr.ownsRow w2.heap.size 3 1 v k (rowI (fun i => i) k) ∧ Below w2.heap.size w2 wr) (fun _ i _ => n - (intOf i).toNat)
  case atStart => exact ⟨0, Nat.zero_le _, rfl, fun _ => rfl, World.ownsRow_nil _ _ _ _, Below.refl _ _⟩
  case round =>
    obtain ⟨k, hk, rfl, hv0, hown, hb⟩ := hrel
    have HV := Lib.hid hv0
    have HO := Lib.hid hown
    have Hb := Lib.hid hb
    have HY := Lib.hid (HX.out.up hb)
    have hL := HY.out.hL
    have hs := hb.size
    clear hv0 hown hb
    by_cases hkn : k < n
    · go_wp2_with (at_builtin; go_must (refine wpList_append_lies _ rfl (.tmp 30) (.tmp 32) 22 rfl w2.heap.size 3 i0 _ 1 8 Try.underlying22 hi hz0 hz1 hz2 rfl (by omega) _ k (rowI (fun i => i) k) rfl (HO.out.alloc _) ⟨wr.heap.size, 0, none⟩ 1 1 [.int .i64 k] rfl rfl (cell_one_new _ _ _) (by simp [Value.oneCell']) (by omega) (by unfold maxLen; omega) (by omega) (by simp; omega) (wr.heap.size + 1) (by simp) ?_); intro gg cap w3 hown hgrow hat hlt3)
      rw [rowI_succ (fun i => i) k] at hown
      have HZ : Hid (w3.ownsRow w2.heap.size 3 1 (.slice (some ⟨gg, 0, none⟩) (k + 1) cap) (k + 1) (rowI (fun i => i) (k + 1)) ∧ Below w2.heap.size w2 w3) := ⟨hown, Below.grown (Hb.out.alloc hs _) hgrow (Nat.le_trans hs (by simp)) fun i h => (HO.out.lt _ h).1⟩
      clear hown hgrow hat hlt3 HO Hb HY HV
      go_wp2
      go_roundw
      case rel => exact ⟨k + 1, by omega, by go_num, fun h => by omega, HZ.out.1, HZ.out.2⟩
      case measure => simp [intOf]; omega
    · obtain rfl : n = k := by omega
      have HG : Hid (0 < n → ∃ g cap, u7 = .slice (some ⟨g, 0, none⟩) n cap ∧ g < wr.heap.size ∧ ∀ i, i < n → wr.cell? ⟨g, i, none⟩ = some (.int .i64 i)) := fun hp => by
        obtain ⟨g, cap, hv, hg1, hg2⟩ := HO.out.form hp
        have ho := HO.out
        rw [hv] at ho
        exact ⟨g, cap, hv, hg2, fun i hi => by rw [ho.cellAt i (by omega), rowI_at hi]⟩
      clear HO Hb hkn hk
      by_cases hp : 0 < n
      case neg =>
        obtain rfl : n = 0 := by omega
        obtain rfl := HV.out rfl
        clear HV HG
        go_wp2_with fail
        refine (sort_none _ _ _).mono ?_
        rintro _ w4 ⟨rfl, hb4⟩
        simp only [World.size_alloc] at hb4
        have HZ : Hid (Bx w 0 c A L d odd w4) := (HY.out.up ((Below.refl _ _).alloc (Nat.le_refl _) _)).up (by rw [World.size_alloc]; exact hb4)
        have hL4 := HZ.out.hL
        have hmk : ∀ w, (Instr.makeSlice 26 (.int .i64 0) (.int .i64 0)).run Try.prog w = .ok (.slice (some ⟨w.heap.size, 0, none⟩) 0 0) (w.alloc (.cells (Array.replicate 0 (.bool false)) 4)) := run_make_bools 0 (by omega)
        have HE : Hid (Below w.heap.size w (w4.alloc (.cells (Array.replicate 0 (.bool false)) 4))) := HZ.out.bel.alloc HZ.out.bel.size _
        clear HY hL hb4
        go_wp2
        go_loopw [12] (fun i wr => i = .int .i64 0 ∧ Below w.heap.size w wr) (fun _ _ => 0)
        case atStart => exact ⟨rfl, HE.out⟩
        case round =>
          obtain ⟨rfl, hb⟩ := hrel
          go_wp2
          go_ret
          exact ⟨rfl, hb⟩
      case pos =>
        obtain ⟨g, cap, rfl, hg, hc⟩ := HG.out hp
        have HS := Lib.hid (sort_here (cap := cap) HY.out hp good HD1.out hc)
        have hg0 := HY.out.bel.size
        clear HV HG hc HY
        go_wp2_with fail
        refine HS.out.mono ?_
        rintro _ w4 ⟨B, K, E, rfl, hB, hf, r1, r2, hx4⟩
        simp only [World.size_alloc] at hB
        have HF := Lib.hid hf
        have HM := Lib.hid (Mk.start hx4 r1 r2 hp 4)
        have hL4 := hx4.hL
        have hmk := run_make_bools n (by omega)
        clear hf r1 r2 hx4 hL HS hg hB
        go_wp2
        clear hmk hL4
        go_loopw [12] (fun i wr => ∃ k : Nat, k ≤ n ∧ i = .int .i64 k ∧ Mk w n c A L d odd g B w4.heap.size E k wr) (fun i _ => n - (intOf i).toNat)
        case atStart => exact ⟨0, Nat.zero_le _, rfl, HM.out⟩
        case round =>
          obtain ⟨k, hk, rfl, hM⟩ := hrel
          clear HM
          have HM := Lib.hid hM
          clear hM
          by_cases hkn : k < n
          · obtain ⟨b, o, rfl, hb, hrow⟩ := HM.out.bx.ls hp
            have c0 := HM.out.r1 k hkn
            have c1 := HM.out.r2 k hkn
            have hx := HF.out.lt k hkn
            have c2 := HM.out.rh (E k) hx
            rw [mk_new HF.out hkn] at c2
            have z2 := HM.out.zh (E k)
            have hL := HM.out.bx.hL
            have hB := HM.out.bx.hB
            have hO := HM.out.bx.hO
            have c4 := hrow (E k) hx
            clear hrow
            have d0 : decide ((E k : Int) < 0) = false := by simp
            have d1 : decide ((n : Int) ≤ (E k : Int)) = false := by simp; omega
            have d2 : ((k : Int) != (k : Int)) = false := by simp
            have i0 : (0 : Int) ≤ (E k : Int) := by omega
            have i1 : (E k : Int) < (n : Int) := by omega
            have HS2 : Hid (∀ m, Mk w n c (some ⟨b, o, none⟩) L d odd g B w4.heap.size E (k + 1) ((wr.drewN m).setCell ⟨w4.heap.size, E k, none⟩ (.bool true))) := fun m => (HM.out.drewN hp m).step hkn hx
            go_upto_region 20 with (fail)
            go_quiet (fail)
            clear d0 d1 d2
            go_upto_region 23 with (fail)
            refine wp_forget (fun W => Mk w n c (some ⟨b, o, none⟩) L d odd g B w4.heap.size E (k + 1) W) (by first | exact HS2.out _ | exact (HS2.out 0) | trace_state) ?_
            clear HS2 HM c0 c1 c2 z2 hL hB hO c4 i0 i1
            intro w5 hM
            have HM := Lib.hid hM
            obtain ⟨b', o', hbo, hb', hrow⟩ := hM.bx.ls hp
            cases hbo
            have hL := hM.bx.hL
            have hB := hM.bx.hB
            have hO := hM.bx.hO
            have hd0 : (d == 0) = false := by have := HD1.out; simp; omega
            have c0 := hM.r1 k hkn
            have c4 := hrow (E k) hx
            cases hod : odd
            case true =>
              subst hod
              clear hM hrow
              have HW : Hid (∀ m, Mk w n c (some ⟨b, o, none⟩) L d true g B w4.heap.size E (k + 1) (w5.drewN m)) := fun m => HM.out.drewN hp m
              clear HM
              go_quiet (fail)
              go_wp2
              go_roundw
              case rel => exact ⟨k + 1, by omega, by go_num, HW.out _⟩
              case measure => simp [intOf]; omega
            case false =>
              subst hod
              by_cases hk0 : 0 < k
              case neg =>
                obtain rfl : k = 0 := by omega
                clear hM hrow
                have HW : Hid (∀ m, Mk w n c (some ⟨b, o, none⟩) L d false g B w4.heap.size E (0 + 1) (w5.drewN m)) := fun m => HM.out.drewN hp m
                clear HM
                go_quiet (fail)
                go_wp2
                go_roundw
                case rel => exact ⟨0 + 1, by omega, by go_num, HW.out _⟩
                case measure => simp [intOf]; omega
              case pos =>
                have hy := HF.out.lt (k - 1) (by omega)
                have c5 := hM.r1 (k - 1) (by omega)
                have c6 := hrow (E (k - 1)) hy
                clear hM hrow
                have HW : Hid (∀ m, Mk w n c (some ⟨b, o, none⟩) L d false g B w4.heap.size E (k + 1) (w5.drewN m)) := fun m => HM.out.drewN hp m
                have ho := HF.out.ord rfl (k - 1) (by omega)
                rw [show k - 1 + 1 = k by omega] at ho
                have HOr := Lib.hid ho
                clear HM ho
                have k1 : (0 : Int) ≤ (k : Int) - 1 := by omega
                have k2 : (k : Int) - 1 < (n : Int) := by omega
                have k3 : ((k : Int) - 1).toNat = k - 1 := by omega
                have k4 : (1 : Int) ≤ (k : Int) := by omega
                have k6 : IntKind.i64.wrap ((k : Int) - 1) = (k : Int) - 1 := IntWalk.i64_in _ (by omega)
                have k7 : decide ((0 : Int) < (k : Int)) = true := by simp; omega
                have hd1 := HD1.out
                have x0 : (0 : Int) ≤ (E k : Int) := by omega
                have x1 : (E k : Int) < (n : Int) := by omega
                have y0 : (0 : Int) ≤ (E (k - 1) : Int) := by omega
                have y1 : (E (k - 1) : Int) < (n : Int) := by omega
                rcases HOr.out with ho | ⟨ho, ho2⟩
                · unfold wor at ho
                  have f1 : decide (wrap64 ((L (E k)).tdiv d) < wrap64 ((L (E (k - 1))).tdiv d)) = false := by simp only [decide_eq_false_iff_not]; omega
                  have f2 : (wrap64 ((L (E k)).tdiv d) == wrap64 ((L (E (k - 1))).tdiv d)) = false := by simp only [beq_eq_false_iff_ne]; omega
                  clear ho HOr
                  go_quiet (fail)
                  go_wp2
                  go_roundw
                  case rel => exact ⟨k + 1, by omega, by go_num, HW.out _⟩
                  case measure => simp [intOf]; omega
                · unfold wor at ho
                  have f1 : decide (wrap64 ((L (E k)).tdiv d) < wrap64 ((L (E (k - 1))).tdiv d)) = false := by simp only [decide_eq_false_iff_not]; omega
                  have f2 : (wrap64 ((L (E k)).tdiv d) == wrap64 ((L (E (k - 1))).tdiv d)) = true := by simp only [beq_iff_eq]; omega
                  have f3 : decide ((E k : Int) < (E (k - 1) : Int)) = false := by simp only [decide_eq_false_iff_not]; omega
                  have f4 : decide (E k < E (k - 1)) = false := by simp only [decide_eq_false_iff_not]; omega
                  have f5 : ¬ E k < E (k - 1) := by omega
                  clear ho HOr
                  go_quiet (fail)
                  go_wp2
                  go_roundw
                  case rel => exact ⟨k + 1, by omega, by go_num, HW.out _⟩
                  case measure => simp [intOf]; omega
          · have hb := HM.out.bx.bel
            have HZ := Lib.hid hb
            clear hb HM
            go_wp2
            go_ret
            exact ⟨rfl, HZ.out⟩

set_option maxRecDepth 100000 in
set_option maxHeartbeats 8000000 in
theorem sorts_walk (w : World) (n c : Nat) (A : Option Addr) (L : Nat → Int) (hn : n ≤ maxLen) (hL : SI w A n L) (div : Int) (odd : Bool) :
    Calls Try.prog 3 #[.slice A n c, .int .i64 div, .bool odd] w fun e w' => e = .returned (.bool true) ∧ Below w.heap.size w w' := by
  unfold maxLen at hn
  by_cases good : n ≤ 200
  case neg =>
    have HB0 := Lib.hid (bx_new (c := c) (div := div) (odd := odd) hL)
    clear hL
    go_enter Try.func3, Try.ntmps3
    go_wp2_with fail
    refine (known_any _).mono ?_
    rintro e w1 ⟨rfl, hb1⟩
    have HX := Lib.hid (HB0.out.up hb1)
    have hL := HX.out.hL
    clear hb1 HB0
    go_wp2
    go_ret
    exact ⟨rfl, HX.out.bel⟩
  case pos =>
    by_cases h1 : 1 ≤ div
    · by_cases h2 : div ≤ 1073741824
      · exact sorts_a w n c A L good hL div odd div h1 h2 rfl
      · exact sorts_c w n c A L good hL div odd 1 (by omega) rfl
    · exact sorts_b w n c A L good hL div odd 1 (by omega) rfl
end Go.Proofs.Yteckbhpjhohanaa
