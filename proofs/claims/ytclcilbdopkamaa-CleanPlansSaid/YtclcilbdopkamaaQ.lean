/- The walks of clean.Plan and clean.Gain. -/
import Derived.Test.YtclcilbdopkamaaP
import Derived.Test.YtclcilbdopkamaaC
namespace Go.Proofs.Ytclcilbdopkamaa
open Go.RowKit
set_option linter.unusedVariables false
set_option linter.unusedSimpArgs false

def Ld.cells (l : Ld) : List Value := [.int .i64 l.s, .int .i64 l.u, .int .i64 l.z, .bool l.f]
/-- The cells of the first t of M, one behind the other. -/
def rowTo (M : Nat → Ld) : Nat → List Value
  | 0 => []
  | t + 1 => rowTo M t ++ (M t).cells
theorem rowTo_len (M : Nat → Ld) (t : Nat) : (rowTo M t).length = t * 4 := by
  induction t with
  | zero => rfl
  | succ t ih => simp [rowTo, ih, Ld.cells]; omega
theorem rowTo_at (M : Nat → Ld) (t k r : Nat) (hk : k < t) (hr : r < 4) : (rowTo M t)[k * 4 + r]? = (M k).cells[r]? := by
  induction t with
  | zero => omega
  | succ t ih =>
    unfold rowTo
    rcases Nat.lt_or_ge k t with h | h
    · rw [List.getElem?_append_left (by rw [rowTo_len]; omega), ih h]
    · have : k = t := by omega
      subst this
      rw [List.getElem?_append_right (by rw [rowTo_len]; omega), rowTo_len]
      congr 1
      omega

/-- A slice value that the call owns, of loads. -/
def OwnL (w : World) (base : Nat) (e : TypeId) (v : Value) (t : Nat) (M : Nat → Ld) : Prop := w.ownsRow base e 4 v t (rowTo M t)

theorem OwnL.sl {w : World} {base : Nat} {e : TypeId} {v : Value} {t : Nat} {M : Nat → Ld} (h : OwnL w base e v t M) : ∃ A c, v = .slice A t c ∧ SL w A t M := by
  have hh := h
  rcases h.2 with ⟨rfl, rfl⟩ | ⟨g, cap, cur, rfl, hg, hb, h1, h2, h3, h4⟩
  · exact ⟨none, 0, rfl, fun h => by omega⟩
  · refine ⟨_, _, rfl, fun _ => ⟨g, 0, rfl, ?_, fun k hk => ?_⟩⟩
    · rcases Nat.lt_or_ge g w.heap.size with hl | hl
      · exact hl
      · rw [Array.getElem?_eq_none hl] at hb; cases hb
    · have e : ∀ r, r < 4 → w.cell? ⟨g, 0 + k * 4 + r, none⟩ = (M k).cells[r]? := fun r hr => by
        rw [World.ownsRow.cellAt hh (0 + k * 4 + r) (by omega), Nat.zero_add, rowTo_at M t k r hk hr]
      exact ⟨e 0 (by omega), e 1 (by omega), e 2 (by omega), e 3 (by omega)⟩

theorem ld_new (W : World) (g : Nat) (hg : g = W.heap.size) (l : Ld) (t : TypeId) : ∀ j u, l.cells[j]? = some u → (W.alloc (.cells #[.int .i64 l.s, .int .i64 l.u, .int .i64 l.z, .bool l.f] t)).cell? ((⟨g, 0, none⟩ : Addr).add j) = some u := by
  intro j u hu
  subst hg
  have e : (⟨W.heap.size, 0, none⟩ : Addr).add j = ⟨W.heap.size, j, none⟩ := by
    unfold Addr.add
    split
    · rename_i h; rw [h]
    · simp
  rw [e, cell_of_row _ _ _ _ _ _ (heap_alloc_new W _), ← hu]
  simp [Ld.cells]
theorem ld_one (l : Ld) : ∀ u ∈ l.cells, u.oneCell' = true := by simp [Ld.cells, Value.oneCell']

def lenV : Value → Nat
  | .slice _ n _ => n
  | _ => 0

theorem load_info : (Try.prog.info? 23).map (fun i => (i.zero, i.size, i.bytes)) = some (some (.agg #[.int .i64 0, .int .i64 0, .int .i64 0, .bool false]), 4, 32) := by kernel_rfl

def planM (L : Nat → Ld) (n : Nat) : Nat → Ld := fun i => L (pick L n i).toNat

/-- What lies behind t victims of Plan. -/
structure PlanAt (E : TypeId) (L : Nat → Ld) (n : Nat) (need : Int) (w : World) (t : Nat) (v : Value) (x : Int) (wr : World) : Prop where
  go : ∀ i, i < t → frd L n i < need ∧ 0 ≤ pick L n i
  x : x = frd L n t
  own : OwnL wr (w.heap.size + 1) E v t (planM L n)
  gone : ∃ cs : Array Value, wr.heap[w.heap.size]? = some (.cells cs 4 (0, 0)) ∧ cs.size = n ∧ ∀ i, i < n → cs[i]? = some (.bool (seqG L n t i))
  below : Below w.heap.size w wr

theorem PlanAt.sb {E : TypeId} {L : Nat → Ld} {n : Nat} {need : Int} {w : World} {t : Nat} {v : Value} {x : Int} {wr : World} (h : PlanAt E L n need w t v x wr) : SB wr (some ⟨w.heap.size, 0, none⟩) n (seqG L n t) := by
  obtain ⟨cs, h1, h2, h3⟩ := h.gone
  intro hn
  refine ⟨_, _, rfl, ?_, fun k hk => ?_⟩
  · rcases Nat.lt_or_ge w.heap.size wr.heap.size with hl | hl
    · exact hl
    · rw [Array.getElem?_eq_none hl] at h1; cases h1
  · rw [cell_of_row _ _ _ _ _ _ h1, Nat.zero_add]
    exact h3 k hk

theorem ownsRow_up {w w' : World} {base : Nat} {e : TypeId} {size : Nat} {v : Value} {n : Nat} {xs : List Value} (h : w.ownsRow base e size v n xs) (hb : Below w.heap.size w w') : w'.ownsRow base e size v n xs :=
  h.kept (row := none) ⟨hb.os, hb.tape, hb.output, hb.size, fun k hk _ => hb.block k hk⟩ (by cases h : v.ownBlock <;> simp)

theorem PlanAt.up {E : TypeId} {L : Nat → Ld} {n : Nat} {need : Int} {w : World} {t : Nat} {v : Value} {x : Int} {wr w2 : World} (h : PlanAt E L n need w t v x wr) (hb : Below wr.heap.size wr w2) : PlanAt E L n need w t v x w2 := by
  obtain ⟨cs, h1, h2, h3⟩ := h.gone
  refine ⟨h.go, h.x, ownsRow_up h.own hb, ⟨cs, ?_, h2, h3⟩, below_upto h.below hb (Nat.le_refl _)⟩
  rw [hb.block _ ?_]
  · exact h1
  · rcases Nat.lt_or_ge w.heap.size wr.heap.size with hl | hl
    · exact hl
    · rw [Array.getElem?_eq_none hl] at h1; cases h1

theorem PlanAt.cells {E : TypeId} {L : Nat → Ld} {n : Nat} {need : Int} {w : World} {t : Nat} {v : Value} {x : Int} {wr : World} (h : PlanAt E L n need w t v x wr) : w.heap.size < wr.heap.size ∧ ∀ i, i < n → wr.cell? ⟨w.heap.size, i, none⟩ = some (.bool (seqG L n t i)) ∧ wr.frozen? ⟨w.heap.size, i, none⟩ = false := by
  obtain ⟨cs, h1, h2, h3⟩ := h.gone
  refine ⟨?_, fun i hi => ⟨?_, ?_⟩⟩
  · rcases Nat.lt_or_ge w.heap.size wr.heap.size with hl | hl
    · exact hl
    · rw [Array.getElem?_eq_none hl] at h1; cases h1
  · rw [cell_of_row _ _ _ _ _ _ h1]; exact h3 i hi
  · simp [World.frozen?, h1]

theorem PlanAt.next {E : TypeId} {L : Nat → Ld} {n : Nat} {need : Int} {w : World} {t j : Nat} {v v' : Value} {x : Int} {wr w4 : World} {o : Obj} (h : PlanAt E L n need w t v x wr) (hx : x < need) (hj : pick L n t = j) (hjn : j < n)
    (hown : w4.ownsRow (w.heap.size + 1) E 4 v' (t + 1) (rowTo (planM L n) t ++ (L j).cells)) (hg : ((wr.setCell ⟨w.heap.size, j, none⟩ (.bool true)).alloc o).grownBy w4 v.ownBlock) :
    PlanAt E L n need w (t + 1) v' (x + (L j).free) w4 := by
  obtain ⟨cs, h1, h2, h3⟩ := h.gone
  have hlt := h.cells.1
  have hown0 := h.own
  refine ⟨fun i hi => ?_, ?_, ?_, ⟨cs.setIfInBounds j (.bool true), ?_, by simp [h2], fun i hi => ?_⟩, ?_⟩
  · rcases Nat.lt_or_ge i t with hit | hit
    · exact h.go i hit
    · have : i = t := by omega
      subst this
      rw [hj, ← h.x]
      exact ⟨hx, by omega⟩
  · unfold frd; rw [hj, ← h.x]; simp
  · show w4.ownsRow _ _ 4 v' (t + 1) (rowTo (planM L n) t ++ (L (pick L n t).toNat).cells)
    rw [hj]
    simpa using hown
  · rw [hg.block _ (by simp [World.setCell]; omega)]
    · rw [Below.heap_alloc _ _ _ (by simp [World.setCell]; omega)]
      simp [World.setCell, Array.getElem?_modify, h1]
    · intro e
      have := (hown0.lt _ e.symm).1
      omega
  · unfold seqG gSet
    have hp : bestTo L (seqG L n t) n = j := hj
    rw [hp]
    by_cases e : i = j
    · subst e; simp [h2, hi]
    · simp [Array.getElem?_setIfInBounds, Ne.symm e, e]; exact h3 i hi
  · refine Below.grown ((h.below.setCell (p := ⟨w.heap.size, j, none⟩) (Nat.le_refl _) (.bool true)).alloc (by simp [World.setCell]; omega) o) hg (by simp [World.setCell]; omega) (fun k hk => ?_)
    have := (hown0.lt _ hk).1
    omega

theorem PlanAt.len {E : TypeId} {L : Nat → Ld} {n : Nat} {need : Int} {w : World} {t : Nat} {v : Value} {x : Int} {wr : World} (h : PlanAt E L n need w t v x wr) : lenV v = t := by
  obtain ⟨A, c, rfl, _⟩ := h.own.sl
  rfl
theorem PlanAt.cast {E : TypeId} {L : Nat → Ld} {n : Nat} {need : Int} {w : World} {t : Nat} {v : Value} {x y : Int} {wr : World} (h : PlanAt E L n need w t v x wr) (e : x = y) : PlanAt E L n need w t v y wr := e ▸ h
theorem PlanAt.drewN {E : TypeId} {L : Nat → Ld} {n : Nat} {need : Int} {w : World} {t : Nat} {v : Value} {x : Int} {wr : World} (h : PlanAt E L n need w t v x wr) (k : Nat) : PlanAt E L n need w t v x (wr.drewN k) :=
  ⟨h.go, h.x, h.own, h.gone, below_drewN h.below k⟩

def PlanPost (E : TypeId) (L : Nat → Ld) (n : Nat) (need : Int) (w : World) (e : Ending) (w' : World) : Prop :=
  ∃ T v, e = .returned (.tuple #[v, .int .i64 (frd L n T)]) ∧ PlanLen L n need T ∧ OwnL w' (w.heap.size + 1) E v T (planM L n) ∧ Below w.heap.size w w'
theorem PlanAt.post {E : TypeId} {L : Nat → Ld} {n : Nat} {need : Int} {w : World} {t : Nat} {v : Value} {x : Int} {wr : World} {e : Ending} (h : PlanAt E L n need w t v x wr) (hs : need ≤ x ∨ pick L n t < 0) (he : e = .returned (.tuple #[v, .int .i64 x])) : PlanPost E L n need w e wr :=
  ⟨t, v, by rw [he, h.x], ⟨h.go, by rw [← h.x]; exact hs⟩, h.own, h.below⟩

set_option maxHeartbeats 1000000 in
theorem Plan_any (n c : Nat) (A : Option Addr) (need : Int) (L : Nat → Ld) (w : World) (hn : n ≤ 200) (hA : SL w A n L) :
    Calls Try.prog 9 #[.int .i64 need, .slice A n c] w (PlanPost 23 L n need w) := by
  obtain ⟨i0, hi, hz0, hz1, hz2⟩ := info_parts load_info
  have hmk := run_make_bools n (by omega)
  have HA := Lib.hid hA
  clear hA
  go_enter Try.func9, Try.ntmps9
  go_wp2
  clear hmk
  go_loopw [7, 8] (fun v x wr => ∃ (t : Nat) (y : Int), x = .int .i64 y ∧ PlanAt 23 L n need w t v y wr) (fun v _ _ => n - lenV v)
  case atStart =>
    refine ⟨0, 0, rfl, ⟨fun i h => by omega, rfl, World.ownsRow_nil _ _ _ _, ⟨_, heap_alloc_new w _, by simp, fun i hi => by simp [seqG, hi]⟩, (Below.refl _ _).alloc (Nat.le_refl _) _⟩⟩
  case round =>
    obtain ⟨t, y, rfl, hp⟩ := hrel
    by_cases hy : y < need
    · go_wp2_with fail
      refine (victim_any n c n _ _ L (seqG L n t) _ (by unfold maxLen; omega) (HA.out.up hp.below) hp.sb).mono ?_
      rintro e w2 ⟨rfl, hb2⟩
      have hp2 := hp.up hb2
      obtain ⟨v0, hv0⟩ : ∃ v0, bestTo L (seqG L n t) n = v0 := ⟨_, rfl⟩
      rw [hv0]
      have hbd : -1 ≤ v0 ∧ v0 < n := hv0 ▸ bestTo_bd L (seqG L n t) n
      have HV : Hid (pick L n t = v0) := Lib.hid hv0
      clear hv0
      by_cases hneg : v0 < 0
      · clear hb2 hp
        go_wp2
        go_ret2
        exact hp2.post (.inr (by rw [HV.out]; exact hneg)) rfl
      · obtain ⟨j, rfl⟩ := Int.eq_ofNat_of_zero_le (Int.not_lt.1 hneg)
        have hjn : j < n := by omega
        obtain ⟨b, o, rfl, hbl, hcl⟩ := HA.out (by omega)
        obtain ⟨c0, c1, c2, c3⟩ := hcl j hjn
        rw [← hp2.below.cell (p := ⟨b, o + j * 4, none⟩) hbl] at c0
        rw [← hp2.below.cell (p := ⟨b, o + j * 4 + 1, none⟩) hbl] at c1
        rw [← hp2.below.cell (p := ⟨b, o + j * 4 + 2, none⟩) hbl] at c2
        rw [← hp2.below.cell (p := ⟨b, o + j * 4 + 3, none⟩) hbl] at c3
        obtain ⟨hsz, hcs⟩ := hp2.cells
        obtain ⟨g1, g2⟩ := hcs j hjn
        have q1 : b ≠ w.heap.size := by omega
        have q2 : w.heap.size ≠ b := by omega
        have q3 : b < w2.heap.size := by omega
        have HP := Lib.hid hp2
        clear hcl hcs hp hp2 hb2
        have HO := Lib.hid ((ownsRow_setCell_below HP.out.own (a := ⟨w.heap.size, j, none⟩) (Nat.lt_succ_self _) (.bool true)).alloc (.cells #[.int .i64 (L j).s, .int .i64 (L j).u, .int .i64 (L j).z, .bool (L j).f] 23))
        have htn : t ≤ n := seq_le L n t fun i h => (HP.out.go i h).2
        have htn' : t < n := seq_lt L n t (fun i h => (HP.out.go i h).2) (by rw [HV.out]; omega)
        go_wp2_with (at_builtin; go_must (refine wpList_append_own_at _ rfl (.tmp 24) (.tmp 29) 28 rfl (w.heap.size + 1) 23 i0 _ 4 32 Try.underlying28 hi hz0 hz1 hz2 rfl (by omega) _ t (rowTo (planM L n) t) rfl HO.out ⟨w2.heap.size, 0, none⟩ 1 1 (L j).cells rfl rfl (ld_new _ _ (by simp) _ _) (ld_one _) (by unfold maxLen; omega) (by omega) (by simp; omega) ?_); intro v' w4 hown' hg _ _)
        have hp4 := HP.out.next (j := j) hy HV.out hjn hown' hg
        obtain ⟨_, _, _, y0, y1⟩ := seq_inv L n t fun i h => (HP.out.go i h).2
        rw [← HP.out.x] at y0 y1
        have hm := (bestTo_spec L (seqG L n t) n).1 (show 0 ≤ pick L n t by rw [HV.out]; omega)
        have hm2 := hm.2
        rw [show bestTo L (seqG L n t) n = (j : Int) from HV.out, Int.toNat_natCast] at hm2
        obtain ⟨_, m1, m2, m3, m4, _⟩ := may_bd hm2
        rw [show w2.cell? ⟨b, o + j * 4 + 1, none⟩ = w4.cell? ⟨b, o + j * 4 + 1, none⟩ from (HP.out.below.cell hbl).trans (hp4.below.cell hbl).symm] at c1
        rw [show w2.cell? ⟨b, o + j * 4 + 2, none⟩ = w4.cell? ⟨b, o + j * 4 + 2, none⟩ from (HP.out.below.cell hbl).trans (hp4.below.cell hbl).symm] at c2
        have HP4 := Lib.hid hp4
        have hl := HP.out.len
        have hl' := hp4.len
        clear hp4 hm hm2 hown' hg c0 c3 g1 g2
        go_quiet (fail)
        go_wp2
        have Hl := Lib.hid hl
        have Hl' := Lib.hid hl'
        clear hl hl'
        go_roundw
        case rel => exact ⟨t + 1, _, rfl, HP4.out.drewN _⟩
        case measure => simp [Hl.out, Hl'.out]; omega
    · go_wp2
      go_ret2
      exact hp.post (.inl (by omega)) rfl
end Go.Proofs.Ytclcilbdopkamaa
