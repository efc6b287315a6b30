/- lz.greedy: the loop over the places. lz.halves. -/
import Derived.Test.YtlmgihnnphmmhaaLkZ
import Derived.Test.YtlmgihnnphmmhaaLeZ
import Derived.Test.YtlmgihnnphmmhaaMH
namespace Go.Proofs.Ytlmgihnnphmmhaa
open Go.RowKit Go.Shelf
set_option linter.unusedVariables false
set_option linter.unusedSimpArgs false

/-- What the loop over the places has found, behind the rounds pre. -/
structure RgI (b : Bytes) (at_ len s1 : Nat) (v : Value) (W0 : World) (pre : List (BkX len at_)) (W : World) : Prop where
  c8 : W.cell? ⟨s1, 0, none⟩ = some (.int .i64 ((bestGo b at_ (pre.map (·.1.2)) (0, 0)).1 : Nat))
  z8 : W.frozen? ⟨s1, 0, none⟩ = false
  c9 : W.cell? ⟨s1 + 1, 0, none⟩ = some (.int .i64 ((bestGo b at_ (pre.map (·.1.2)) (0, 0)).2 : Nat))
  z9 : W.frozen? ⟨s1 + 1, 0, none⟩ = false
  c10 : W.cell? ⟨s1 + 2, 0, none⟩ = some v
  bel : Below s1 W0 W
  few : ∀ x ∈ pre, len - x.1.1 ≤ 24
def RgX (b : Bytes) (at_ len s1 : Nat) (v : Value) (W0 : World) (c : Code) (pre : List (BkX len at_)) (W : World) : Prop :=
  c = .exit 2 ∧ ∃ pre' x, pre = pre' ++ [x] ∧ 24 < len - x.1.1 ∧ RgI b at_ len s1 v W0 pre' W
section
variable {b : Bytes} {at_ len s1 : Nat} {v : Value} {W0 : World}
theorem RgI.size {pre : List (BkX len at_)} {W : World} (h : RgI b at_ len s1 v W0 pre W) : s1 + 2 < W.heap.size := lt_of_cell h.c10
theorem RgI.off {pre : List (BkX len at_)} {W W' : World} (h : RgI b at_ len s1 v W0 pre W) {S : Nat → Prop} (ho : Off S W W') (hS : ∀ k, S k → s1 + 3 ≤ k) : RgI b at_ len s1 v W0 pre W' := by
  have hs := h.size
  have n0 : ¬ S s1 := fun e => by have := hS _ e; omega
  have n1 : ¬ S (s1 + 1) := fun e => by have := hS _ e; omega
  have n2 : ¬ S (s1 + 2) := fun e => by have := hS _ e; omega
  exact ⟨(ho.cell (p := ⟨s1, 0, none⟩) (by show s1 < _; omega) n0).trans h.c8, (ho.frozen (p := ⟨s1, 0, none⟩) (by show s1 < _; omega) n0).trans h.z8, (ho.cell (p := ⟨s1 + 1, 0, none⟩) (by show s1 + 1 < _; omega) n1).trans h.c9, (ho.frozen (p := ⟨s1 + 1, 0, none⟩) (by show s1 + 1 < _; omega) n1).trans h.z9,
    (ho.cell (p := ⟨s1 + 2, 0, none⟩) (by show s1 + 2 < _; omega) n2).trans h.c10, h.bel.trans (ho.below (fun i hi => by have := hS i hi; omega) (by omega)), h.few⟩
theorem RgI.own (B : Nat) (hB : s1 + 3 ≤ B) : OwnFrom B (RgI b at_ len s1 v W0) := by
  intro pre W W' row h hg hr
  exact h.off (S := fun k => row = some k) (grown_off hg) fun k hk => Nat.le_trans hB (hr k hk).1
theorem RgX.own (B : Nat) (hB : s1 + 3 ≤ B) (c : Code) : OwnFrom B (RgX b at_ len s1 v W0 c) := by
  rintro pre W W' row ⟨h1, pre', x, h2, h3, h4⟩ hg hr
  exact ⟨h1, pre', x, h2, h3, RgI.own B hB pre' W W' row h4 hg hr⟩
theorem KeepsFrom.of_off {B : Nat} {S : Nat → Prop} {W W' : World} (ho : Off S W W') (hS : ∀ k, S k → k < B) : KeepsFrom B W W' :=
  ⟨ho.size, fun k o hB hk _ => by rw [ho.block k (Array.getElem?_eq_some_iff.1 hk).1 (fun e => by have := hS k e; omega)]; exact hk⟩
theorem RgI.step {pre : List (BkX len at_)} {W W1 : World} (h : RgI b at_ len s1 v W0 pre W) (x : BkX len at_) (hx : len - x.1.1 ≤ 24) (hb : Below W.heap.size W W1) :
    (¬ (bestGo b at_ (pre.map (·.1.2)) (0, 0)).1 < sameB b x.1.2 at_ → RgI b at_ len s1 v W0 (pre ++ [x]) W1) ∧
    ((bestGo b at_ (pre.map (·.1.2)) (0, 0)).1 < sameB b x.1.2 at_ → RgI b at_ len s1 v W0 (pre ++ [x]) ((W1.setCell ⟨s1, 0, none⟩ (.int .i64 (sameB b x.1.2 at_ : Nat))).setCell ⟨s1 + 1, 0, none⟩ (.int .i64 (x.1.2 : Nat)))) := by
  have h1 := h.off (S := fun _ => False) (Off.of_below hb) (fun _ => False.elim)
  have he : bestGo b at_ ((pre ++ [x]).map (·.1.2)) (0, 0) = if (bestGo b at_ (pre.map (·.1.2)) (0, 0)).1 < sameB b x.1.2 at_ then (sameB b x.1.2 at_, x.1.2) else bestGo b at_ (pre.map (·.1.2)) (0, 0) := by
    rw [List.map_append, bestGo_append]; rfl
  have hf : ∀ y ∈ pre ++ [x], len - y.1.1 ≤ 24 := by
    intro y hy
    rcases List.mem_append.1 hy with hy | hy
    · exact h.few y hy
    · rw [List.mem_singleton.1 hy]; exact hx
  refine ⟨fun hn => ?_, fun hn => ?_⟩
  · rw [if_neg hn] at he
    exact ⟨by rw [he]; exact h1.c8, h1.z8, by rw [he]; exact h1.c9, h1.z9, h1.c10, h1.bel, hf⟩
  · rw [if_pos hn] at he
    have n01 : (⟨s1 + 1, 0, none⟩ : Addr) ≠ ⟨s1, 0, none⟩ := fun e => by injection e with e1; omega
    have n20 : (⟨s1, 0, none⟩ : Addr) ≠ ⟨s1 + 2, 0, none⟩ := fun e => by injection e with e1; omega
    have n21 : (⟨s1 + 1, 0, none⟩ : Addr) ≠ ⟨s1 + 2, 0, none⟩ := fun e => by injection e with e1; omega
    refine ⟨?_, by rw [World.frozen?_setCell, World.frozen?_setCell]; exact h1.z8, ?_, by rw [World.frozen?_setCell, World.frozen?_setCell]; exact h1.z9, ?_, (h1.bel.setCell (p := ⟨s1, 0, none⟩) (Nat.le_refl _) _).setCell (p := ⟨s1 + 1, 0, none⟩) (by show s1 ≤ s1 + 1; omega) _, hf⟩
    · rw [he, World.cell?_setCell_other _ _ _ _ n01]
      exact World.cell?_setCell_same _ _ _ h1.c8
    · rw [he]
      exact World.cell?_setCell_same _ _ _ ((World.cell?_setCell_other _ _ _ _ n01.symm).trans h1.c9)
    · rw [World.cell?_setCell_other _ _ _ _ n21, World.cell?_setCell_other _ _ _ _ n20]
      exact h1.c10
end
/-- All rounds are over. -/
theorem RgI.done {b : Bytes} {at_ s1 : Nat} {v : Value} {W0 W : World} {zs : List Nat} {hz : ∀ i ∈ zs, i ≤ at_} (h : RgI b at_ zs.length s1 v W0 (backL zs at_ hz) W) : (backL zs at_ hz).map (·.1.2) = zs.reverse.take 24 := by
  rw [backL_rev]
  refine (List.take_of_length_le ?_).symm
  rw [List.length_reverse]
  rcases Nat.eq_zero_or_pos zs.length with h0 | h0
  · omega
  · have hl := backL_length zs at_ hz
    have hm : (backL zs at_ hz)[zs.length - 1]'(by omega) ∈ backL zs at_ hz := List.getElem_mem _
    have h1 := h.few _ hm
    have h2 := backL_at zs at_ hz (zs.length - 1) (by omega)
    rw [h2] at h1
    simp only at h1
    omega
/-- A round has said 'no more'. -/
theorem RgX.stop {b : Bytes} {at_ s1 : Nat} {v : Value} {W0 W : World} {zs : List Nat} {hz : ∀ i ∈ zs, i ≤ at_} {c : Code} {k : Nat} (hk : k ≤ zs.length) (h : RgX b at_ zs.length s1 v W0 c ((backL zs at_ hz).take k) W) :
    c = .exit 2 ∧ ∃ pre, pre.map (·.1.2) = zs.reverse.take 24 ∧ RgI b at_ zs.length s1 v W0 pre W := by
  obtain ⟨h1, pre, x, h2, h3, h4⟩ := h
  refine ⟨h1, pre, ?_, h4⟩
  have hl := backL_length zs at_ hz
  have hlen : k = pre.length + 1 := by
    have := congrArg List.length h2
    simp only [List.length_take, List.length_append, List.length_cons, List.length_nil] at this
    omega
  have hpre : pre = (backL zs at_ hz).take pre.length := by
    have := congrArg (List.take pre.length) h2
    rw [List.take_take, List.take_left, Nat.min_eq_left (by omega)] at this
    exact this.symm
  have hx : x = (backL zs at_ hz)[pre.length]'(by omega) := by
    have h5 : ((backL zs at_ hz).take k)[pre.length]? = some x := by rw [h2]; simp
    rw [List.getElem?_take, if_pos (by omega), List.getElem?_eq_getElem (by omega)] at h5
    exact (Option.some.inj h5).symm
  rw [hx, backL_at zs at_ hz _ (by omega)] at h3
  simp only at h3
  have h24 : pre.length = 24 := by
    refine Classical.byContradiction fun hne => ?_
    have h25 : 24 < (backL zs at_ hz).length := by omega
    have hm : (backL zs at_ hz)[24]'h25 ∈ (backL zs at_ hz).take pre.length := List.mem_take_iff_getElem.2 ⟨24, by omega, rfl⟩
    rw [← hpre] at hm
    have := h4.few _ hm
    rw [backL_at zs at_ hz _ (by omega)] at this
    simp only at this
    omega
  rw [hpre, List.map_take, backL_rev, h24]
theorem wp_range_pin {P : Program} {c : Code} {id : Nat} {Q : Exit → Act → World → Prop} {a : Act} {w : World} (R : Nat → World → Prop)
    (h : c.wp P (fun e a' w' => (e = .normal ∨ e = .exit id) ∧ ∃ D, a' = { a with defers := { target := .collected D, args := #[] } :: a.defers } ∧ R D w') a w)
    (H : ∀ D w', R D w' → Q .normal { a with defers := { target := .collected D, args := #[] } :: a.defers } w') : c.wp P (Exit.inBlock id Q) a w := by
  refine Code.wp_mono ?_ h
  rintro e a' w' ⟨h1, D, rfl, h2⟩
  rcases h1 with rfl | rfl
  · exact H D w' h2
  · show if id = id then _ else _
    rw [if_pos rfl]
    exact H D w' h2
end Go.Proofs.Ytlmgihnnphmmhaa
namespace Go.Proofs.Ytlmgihnnphmmhaa
open Go.RowKit
set_option linter.unusedVariables false
set_option linter.unusedSimpArgs false

theorem FrB.one (w : World) {x : Nat} (h : x < 256) : FrB w (w.alloc (.cells #[.int .u8 (x : Nat)] 5)) (.slice (some ⟨w.heap.size, 0, none⟩) 1 1) [b8 x] := by
  refine ⟨?_, (Below.refl _ _).alloc (Nat.le_refl _) _⟩
  have := World.ownsRow_lit (base := w.heap.size) (e := 5) (size := 1) w #[.int .u8 (x : Nat)] 1 (Nat.le_refl _) (by unfold maxLen; omega) rfl
  unfold OwB
  simpa [bv, b8_lt h] using this

set_option maxRecDepth 100000 in
set_option maxHeartbeats 1000000 in
theorem halves_any (w : World) (A : Option Addr) (n c : Nat) (b : Bytes) (hb : SBy w A n b) (hc : n ≤ c) (hn : n ≤ 2 ^ 20) :
    Calls Try.prog 77 #[.slice A n c] w fun e w' => ∃ A' n' c', e = .returned (.slice A' n' c') ∧ FrB w w' (.slice A' n' c') (halvesB b) := by
  have hl := hb.1
  obtain ⟨h, hh⟩ : ∃ h, h = n / 2 := ⟨_, rfl⟩
  obtain ⟨r, hr⟩ : ∃ r, r = n % 2 := ⟨_, rfl⟩
  have e1 : (n : Int) / 2 = (h : Int) := by omega
  have e2 : (n : Int) % 2 = (r : Int) := by omega
  have e3 : (n : Int).tmod 2 = (r : Int) := by rw [Int.tmod_eq_emod_of_nonneg (by omega)]; omega
  have e4 : IntKind.i64.wrap (r : Int) = (r : Int) := IntWalk.i64_in _ (by omega)
  have HF : Hid (∀ m, FrB w (w.drewN m) (.slice none 0 0) []) := fun m => (FrB.empty w).drewN m
  by_cases h0 : h = 0
  · have HH : Hid (halvesB b = []) := by unfold halvesB; rw [if_pos (.inl (by omega))]; exact rfl
    have HHH := Lib.hid hh
    rw [h0] at e1
    have e1' : (n : Int) / 2 = 0 := e1
    clear hh e1 hr e2 e3 e4 hb h0
    go_enter Try.func77, Try.ntmps77
    go_upto_region 2 with (fail)
    go_quiet (fail)
    go_wp2
    go_ret
    rw [HH.out]
    exact ⟨_, _, _, rfl, HF.out _⟩
  have k0 : ((h : Int) == 0) = false := by simp; omega
  by_cases h1 : r = 1
  · have HH : Hid (halvesB b = []) := by unfold halvesB; rw [if_pos (.inr (.inl (by omega)))]; exact rfl
    subst h1
    clear hb hr hh
    go_enter Try.func77, Try.ntmps77
    go_upto_region 2 with (fail)
    go_quiet (fail)
    go_wp2
    go_ret
    rw [HH.out]
    exact ⟨_, _, _, rfl, HF.out _⟩
  have k1 : ((r : Int) == 1) = false := by simp; omega
  obtain ⟨g, o, rfl, hg, _⟩ := hb.2 (by omega)
  have P1 : Hid (SBy w (some ⟨g, o, none⟩) h (b.take h)) := by
    have := hb.part 0 h (by omega) (by omega)
    rwa [Nat.sub_zero, List.drop_zero, Nat.add_zero] at this
  have P2 : Hid (SBy w (some ⟨g, o + h, none⟩) (n - h) (b.drop h)) := by
    have := hb.part h n (by omega) (by omega)
    rwa [List.take_of_length_le (by rw [List.length_drop]; omega)] at this
  have i1 : (0 : Int) ≤ (h : Int) := by omega
  have i2 : (h : Int) ≤ (n : Int) := by omega
  have i3 : (h : Int) ≤ (c : Int) := by omega
  have i4 : h ≤ n := by omega
  have i5 : h ≤ c := by omega
  have hc2 : c - h ≠ 0 := by omega
  have HQ : Hid (∀ m, Calls Try.prog 100 #[.slice (some ⟨g, o, none⟩) h h, .slice (some ⟨g, o + h, none⟩) (n - h) (c - h)] (w.drewN m) fun e w' => e = .returned (.bool (decide (b.take h = b.drop h))) ∧ w' = w.drewN m) :=
    fun m => equal_any (w.drewN m) _ _ _ _ _ _ _ _ (P1.out.drewN m) (P2.out.drewN m)
  have hh2 : h ≤ 2 ^ 20 := by omega
  have HX : Hid (halvesB b = if b.take h = b.drop h then copB (litB [1] (b.take h)) h h else []) := by
    unfold halvesB
    rw [hl, ← hh]
    by_cases he : b.take h = b.drop h
    · rw [if_pos he, if_neg (by simp [he]; omega)]; exact rfl
    · rw [if_neg he, if_pos (.inr (.inr he))]; exact rfl
  have hcp : c ≠ h := by omega
  clear hb hr hh
  by_cases he : b.take h = b.drop h
  · have hx := HX.out
    rw [if_pos he] at hx
    have HX2 := Lib.hid hx
    have hq := HQ.out
    rw [show decide (b.take h = b.drop h) = true by simp [he]] at hq
    have HQ2 := Lib.hid hq
    have HL := Lib.hid (fun (w1 : World) (hb : Below w.heap.size w w1) => literal_any w1 (w1.alloc (.cells #[.int .u8 (1 : Nat)] 5)) (some ⟨w1.heap.size, 0, none⟩) 1 1 [b8 1] (some ⟨g, o, none⟩) h h (b.take h) (FrB.one w1 (by omega)) ((P1.out.up hb).alloc _) (by omega) (by omega))
    have HW : Hid (∀ m, Below w.heap.size w (w.drewN m)) := fun m => below_drewN (Below.refl _ _) m
    clear HX hx hq HQ he
    go_enter Try.func77, Try.ntmps77
    go_upto_region 2 with (fail)
    go_quiet ((go_at_call 100; exact Calls.quiet_of_same (HQ2.out _)))
    go_upto_region 4 with (fail)
    refine wp_forget (fun w1 => Below w.heap.size w w1) (HW.out _) ?_
    clear HW
    intro w1 hb1
    have HB := Lib.hid hb1
    have HL1 := Lib.hid (HL.out w1 hb1)
    clear hb1 HL
    go_wp2_with fail
    refine HL1.out.mono ?_
    rintro _ w2 ⟨A2, n2, c2, rfl, h2, _⟩
    have hn2 : n2 ≤ 2 ^ 21 := by
      have h3 := h2.len
      have h4 := litB_le [b8 1] (b.take h) (by rw [List.length_take]; omega)
      simp only [List.length_take, List.length_cons, List.length_nil] at h4
      omega
    have H2 := Lib.hid h2
    clear h2 HL1
    go_wp2_with fail
    refine (copied_any w2 A2 n2 c2 _ h h H2.out.sby (by omega) (by omega) (by omega)).mono ?_
    rintro _ w3 ⟨A3, n3, c3, rfl, h3⟩
    have H3 := Lib.hid ((h3.elder H2.out.bel).elder HB.out)
    clear h3
    go_wp2
    go_ret
    rw [HX2.out]
    exact ⟨_, _, _, rfl, H3.out⟩
  · have hx := HX.out
    rw [if_neg he] at hx
    have HX2 := Lib.hid hx
    have hq := HQ.out
    rw [show decide (b.take h = b.drop h) = false by simp [he]] at hq
    have HQ2 := Lib.hid hq
    clear HX hx hq HQ he
    go_enter Try.func77, Try.ntmps77
    go_upto_region 2 with (fail)
    go_quiet ((go_at_call 100; exact Calls.quiet_of_same (HQ2.out _)))
    go_wp2
    go_ret
    rw [HX2.out]
    exact ⟨_, _, _, rfl, HF.out _⟩
end Go.Proofs.Ytlmgihnnphmmhaa
