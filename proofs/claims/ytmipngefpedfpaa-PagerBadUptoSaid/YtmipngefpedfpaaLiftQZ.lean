/- Arguments opened: a list of acts. -/
import Derived.Test.YtmipngefpedfpaaXrZ
import Derived.Test.YtmipngefpedfpaaLiftPZ
namespace Go.Proofs.Ytmipngefpedfpaa
open Go.ChangeShapes Go.WideShapes Go.ChangeAt Go.RowKit Go.Joins Go.Deep
set_option linter.unusedVariables false
set_option linter.unusedSimpArgs false

theorem bulk_one {H : Type} (d : DataW H) : 1 ≤ Rows.uptoBulk d := by
  cases d with
  | lit l => cases l <;> simp [Rows.uptoBulk]
  | nil => simp [Rows.uptoBulk]
  | ptr d => simp [Rows.uptoBulk]
  | slice elems spare => simp [Rows.uptoBulk]
  | agg parts => simp [Rows.uptoBulk]
  | iface t d => simp [Rows.uptoBulk]
  | map entries => simp [Rows.uptoBulk]
  | held h => simp [Rows.uptoBulk]
theorem bulk_part {H : Type} {d : DataW H} {l : List (DataW H)} (h : d ∈ l) : Rows.uptoBulk d ≤ Rows.uptoBulkAll l := by
  induction l with
  | nil => cases h
  | cons x r ih =>
    simp only [Rows.uptoBulkAll]
    cases List.mem_cons.1 h with
    | inl e => subst e; omega
    | inr e => have := ih e; omega
theorem bulk_app {H : Type} (l r : List (DataW H)) : Rows.uptoBulkAll (l ++ r) = Rows.uptoBulkAll l + Rows.uptoBulkAll r := by
  induction l with
  | nil => simp [Rows.uptoBulkAll]
  | cons x l ih => simp only [List.cons_append, Rows.uptoBulkAll, ih]; omega
theorem bulk_len {H : Type} (l : List (DataW H)) : l.length ≤ Rows.uptoBulkAll l := by
  induction l with
  | nil => simp [Rows.uptoBulkAll]
  | cons x r ih => have := bulk_one x; simp only [Rows.uptoBulkAll, List.length_cons]; omega
theorem bulk_bound {H : Type} {l : List (DataW H)} (hk : Rows.uptoSmall H l = true) : Rows.uptoBulkAll l ≤ 1048576 := of_decide_eq_true hk
theorem cellsAct : Try.prog.cellsOf 54 = 5 := by kernel_rfl
section
variable {H : Type} {enc : TypeId × Value → H} {w : World}
/-- A slice of bytes that came in. -/
theorem open_byB {A : Option Addr} {n c fuel : Nat} {x : DataW H × List MemPlace} (h : DataW.trod enc Try.prog w 0 (fun _ => true) true fuel 22 [.slice A n c] = some x) :
    n ≤ c ∧ n ≤ maxLen ∧ n ≤ Rows.uptoBulk x.1 ∧ ∃ L, SBy w A n L := by
  rcases open_slice1 Try.underlying22 cellsU8 h with ⟨h0, h1⟩ | ⟨a, len, cap, m, n', V, D, Pl, hcs, _, hl, hm, hmm, hx, hi⟩
  · simp at h0
    obtain ⟨rfl, rfl, rfl⟩ := h0
    exact ⟨Nat.le_refl _, by unfold maxLen; omega, Nat.zero_le _, [], SBy.nil _ _⟩
  · simp at hcs
    obtain ⟨rfl, rfl, rfl⟩ := hcs
    have hlm : n ≤ m := by rw [hmm]; split <;> omega
    have hV : ∀ i, i < n → ∃ k : Nat, k < 256 ∧ V i = .int .u8 (k : Nat) := fun i hlt => by
      obtain ⟨a', ha, hd, hw⟩ := DataW.trod_int Try.underlying5 (hi i (by omega)).2
      simp at ha
      have hb : 0 ≤ a' ∧ a' ≤ 255 := by simpa [Lit.wf, IntKind.min, IntKind.max, IntKind.signed, IntKind.bits] using hw
      exact ⟨a'.toNat, by omega, by rw [ha, Int.toNat_of_nonneg hb.1]⟩
    refine ⟨hl, by omega, ?_, (List.range n).map (fun i => if h : i < n then b8 (Classical.choose (hV i h)) else 0), by simp, fun hp => ?_⟩
    · rw [hx]
      show n ≤ Rows.uptoBulkAll _ + Rows.uptoBulkAll _ + 1
      have := bulk_len ((List.range n).map D)
      simp at this
      omega
    · have hspot : a.spot = none ∧ a.block < w.heap.size := by
        have h0 := (hi 0 (by omega)).1
        have e1 : a.add 0 = a := by simp [Addr.add]
        rw [e1] at h0
        refine ⟨World.cell?_spot h0, ?_⟩
        rcases Nat.lt_or_ge a.block w.heap.size with h1 | h1
        · exact h1
        · simp [World.cell?, Array.getElem?_eq_none h1] at h0
      obtain ⟨b, o, spot⟩ := a
      obtain ⟨rfl, hb⟩ := hspot
      refine ⟨b, o, rfl, hb, fun k hk => ?_⟩
      have h1 := (hi k (by omega)).1
      rw [add_plain] at h1
      rw [h1]
      have hs := Classical.choose_spec (hV k hk)
      have he : at8 ((List.range n).map (fun i => if h : i < n then b8 (Classical.choose (hV i h)) else 0)) k = Classical.choose (hV k hk) := by
        rw [at8_get (by simpa using hk)]
        simp only [List.getElem_map, List.getElem_range, hk, dite_true]
        exact b8_lt hs.1
      rw [he]
      exact congrArg some hs.2
/-- A slice of whatever elements, with each element's bulk. -/
theorem rows_ofB {t e : TypeId} {A : Option Addr} {n c : Nat} {d : DataW H} {p : List MemPlace} (ht : Try.prog.underlying t = some (.slice e)) (hC : 0 < Try.prog.cellsOf e) (h : DataW.Trod enc Try.prog w 0 (fun _ => true) true t (.slice A n c) d p) :
    n ≤ maxLen ∧ (0 < n → ∃ b o, A = some ⟨b, o, none⟩ ∧ b < w.heap.size ∧ ∀ k, k < n → ∃ (cs : List Value) (m : Nat) (x : DataW H × List MemPlace), cs.length = Try.prog.cellsOf e ∧ DataW.trod enc Try.prog w 0 (fun _ => true) true m e cs = some x ∧ Rows.uptoBulk x.1 ≤ Rows.uptoBulk d ∧ ∀ j, j < Try.prog.cellsOf e → w.cell? ⟨b, o + k * Try.prog.cellsOf e + j, none⟩ = cs[j]?) := by
  obtain ⟨fuel, hf⟩ := h
  rcases open_slice ht hf with ⟨h0, _⟩ | ⟨a, len, cap, m, n', D, Pl, hcs, _, hl, hm, hmm, hx, hi⟩
  · simp [Value.cells] at h0
    obtain ⟨rfl, rfl, rfl⟩ := h0
    exact ⟨by unfold maxLen; omega, fun h => by omega⟩
  · simp [Value.cells] at hcs
    obtain ⟨rfl, rfl, rfl⟩ := hcs
    refine ⟨by omega, fun hn => ?_⟩
    have hlm : n ≤ m := by rw [hmm]; split <;> omega
    have hspot : a.spot = none ∧ a.block < w.heap.size := by
      obtain ⟨cs', hc, _⟩ := hi 0 (by omega)
      obtain ⟨_, hlen, hat⟩ := World.cells?_some hc
      have h0 := hat 0 hC
      rw [Nat.zero_mul] at h0
      have e1 : (a.add 0).add 0 = a := by simp [Addr.add]
      rw [e1, List.getElem?_eq_getElem (by omega)] at h0
      refine ⟨World.cell?_spot h0, ?_⟩
      rcases Nat.lt_or_ge a.block w.heap.size with h1 | h1
      · exact h1
      · simp [World.cell?, Array.getElem?_eq_none h1] at h0
    obtain ⟨b, o, spot⟩ := a
    obtain ⟨rfl, hb⟩ := hspot
    refine ⟨b, o, rfl, hb, fun k hk => ?_⟩
    obtain ⟨cs', hc, ht'⟩ := hi k (by omega)
    obtain ⟨_, hlen, hat⟩ := World.cells?_some hc
    refine ⟨cs', n', _, hlen, ht', ?_, fun j hj => ?_⟩
    · have hx1 : d = .slice ((List.range n).map D) ((List.range (m - n)).map fun j => D (n + j)) := congrArg Prod.fst hx
      rw [hx1]
      show Rows.uptoBulk (D k) ≤ Rows.uptoBulkAll _ + Rows.uptoBulkAll _ + 1
      have := bulk_part (d := D k) (l := (List.range n).map D) (List.mem_map.2 ⟨k, List.mem_range.2 hk, rfl⟩)
      omega
    · have := hat j hj
      rwa [add_plain, add_plain] at this
theorem field_ofB {e : TypeId} {fs : Array Field} {m : Nat} {cs : List Value} {x : DataW H × List MemPlace} (he : Try.prog.underlying e = some (.struct fs)) (hone : oneCellFields Try.prog fs = true) (hC : Try.prog.cellsOf e = fs.size) (h : DataW.trod enc Try.prog w 0 (fun _ => true) true m e cs = some x)
    (j : Nat) (f : Field) (hj : fs[j]? = some f) : ∃ (v : Value) (y : DataW H × List MemPlace) (m' : Nat), cs[j]? = some v ∧ DataW.trod enc Try.prog w 0 (fun _ => true) true m' f.type [v] = some y ∧ Rows.uptoBulk y.1 ≤ Rows.uptoBulk x.1 := by
  obtain ⟨ys, n', _, hx, hlen, hyl, hf⟩ := DataW.trod_struct he h
  obtain ⟨ho, hk⟩ := hone_of hone j f hj
  have hjl : j < fs.size := (Array.getElem?_eq_some_iff.1 hj).1
  have h1 := hf j f hj
  rw [ho, hk] at h1
  have e1 : (cs.drop j).take 1 = [cs[j]'(by omega)] := by
    rw [List.drop_eq_getElem_cons (by omega)]
    rfl
  rw [e1] at h1
  refine ⟨_, _, n', List.getElem?_eq_getElem (by omega), h1.trans (List.getElem?_eq_getElem (by omega)), ?_⟩
  rw [hx]
  show Rows.uptoBulk (ys[j]'(by omega)).1 ≤ Rows.uptoBulkAll (ys.map (·.1)) + 1
  have := bulk_part (d := (ys[j]'(by omega)).1) (l := ys.map (·.1)) (List.mem_map.2 ⟨_, List.getElem_mem _, rfl⟩)
  omega
/-- A list of acts that came in. -/
theorem open_acs {A : Option Addr} {n c : Nat} {d : DataW H} {p : List MemPlace} (h : DataW.Trod enc Try.prog w 0 (fun _ => true) true 47 (.slice A n c) d p) (hk : Rows.uptoBulk d ≤ 1048576) : n ≤ maxLen ∧ ∃ b, Acs w A n b := by
  obtain ⟨hm, hr⟩ := rows_ofB Try.underlying47 (by rw [cellsAct]; omega) h
  refine ⟨hm, ?_⟩
  rcases Nat.eq_zero_or_pos n with h0 | hp
  · exact ⟨fun _ => ⟨0, 0, 0, 0, none, 0, 0, []⟩, fun h => by omega⟩
  obtain ⟨bl, o, rfl, hb, hc⟩ := hr hp
  have hall : ∀ k, ∃ l : Ac, k < n → (∀ j v, l.cells[j]? = some v → w.cell? ⟨bl, o + k * 5 + j, none⟩ = some v) ∧ SBy w l.A l.nb l.b ∧ (-9223372036854775808 ≤ l.op ∧ l.op ≤ 9223372036854775807) ∧ (-9223372036854775808 ≤ l.page ∧ l.page ≤ 9223372036854775807) ∧ (-9223372036854775808 ≤ l.off ∧ l.off ≤ 9223372036854775807) ∧ (-9223372036854775808 ≤ l.n ∧ l.n ≤ 9223372036854775807) ∧ l.nb ≤ 140737488355328 := by
    intro k
    by_cases hkn : k < n
    · obtain ⟨cs, m, x, hlen, ht, hbx, hat⟩ := hc k hkn
      rw [cellsAct] at hat
      have g := field_ofB Try.underlying54 (by kernel_rfl) cellsAct ht
      obtain ⟨v0, y0, m0, e0, t0, b0⟩ := g 0 _ rfl
      obtain ⟨v1, y1, m1, e1, t1, b1⟩ := g 1 _ rfl
      obtain ⟨v2, y2, m2, e2, t2, b2⟩ := g 2 _ rfl
      obtain ⟨v3, y3, m3, e3, t3, b3⟩ := g 3 _ rfl
      obtain ⟨v4, y4, m4, e4, t4, b4⟩ := g 4 _ rfl
      obtain ⟨s0, k0, _, hw0⟩ := DataW.trod_int Try.underlying3 t0
      obtain ⟨s1, k1, _, hw1⟩ := DataW.trod_int Try.underlying3 t1
      obtain ⟨s2, k2, _, hw2⟩ := DataW.trod_int Try.underlying3 t2
      obtain ⟨s3, k3, _, hw3⟩ := DataW.trod_int Try.underlying3 t3
      simp at k0 k1 k2 k3
      subst k0
      subst k1
      subst k2
      subst k3
      have hs0 : -9223372036854775808 ≤ s0 ∧ s0 ≤ 9223372036854775807 := by simpa [Lit.wf, IntKind.min, IntKind.max, IntKind.signed, IntKind.bits] using hw0
      have hs1 : -9223372036854775808 ≤ s1 ∧ s1 ≤ 9223372036854775807 := by simpa [Lit.wf, IntKind.min, IntKind.max, IntKind.signed, IntKind.bits] using hw1
      have hs2 : -9223372036854775808 ≤ s2 ∧ s2 ≤ 9223372036854775807 := by simpa [Lit.wf, IntKind.min, IntKind.max, IntKind.signed, IntKind.bits] using hw2
      have hs3 : -9223372036854775808 ≤ s3 ∧ s3 ≤ 9223372036854775807 := by simpa [Lit.wf, IntKind.min, IntKind.max, IntKind.signed, IntKind.bits] using hw3
      have hform : ∃ A1 n1 c1, v4 = .slice A1 n1 c1 := by
        rcases open_slice1 Try.underlying22 cellsU8 t4 with ⟨h0, _⟩ | ⟨a, len, cap, _, _, _, _, _, hcs, _⟩
        · simp at h0
          exact ⟨_, _, _, h0⟩
        · simp at hcs
          exact ⟨_, _, _, hcs⟩
      obtain ⟨A1, n1, c1, rfl⟩ := hform
      obtain ⟨j1, _, j2, L, j3⟩ := open_byB t4
      refine ⟨⟨s0, s1, s2, s3, A1, n1, c1, L⟩, fun _ => ⟨fun j v hv => ?_, j3, hs0, hs1, hs2, hs3, show n1 ≤ 140737488355328 by omega⟩⟩
      have hj : j < 5 := by
        rcases Nat.lt_or_ge j 5 with h | h
        · exact h
        · rw [Array.getElem?_eq_none (by exact h)] at hv; cases hv
      have hcj := hat j hj
      rw [hcj]
      match j, hj, hv with
      | 0, _, hv => exact e0.trans hv
      | 1, _, hv => exact e1.trans hv
      | 2, _, hv => exact e2.trans hv
      | 3, _, hv => exact e3.trans hv
      | 4, _, hv => exact e4.trans hv
    · exact ⟨⟨0, 0, 0, 0, none, 0, 0, []⟩, fun h => absurd h hkn⟩
  exact ⟨fun k => Classical.choose (hall k), fun _ => ⟨bl, o, rfl, hb, fun k hk => Classical.choose_spec (hall k) hk⟩⟩
end
end Go.Proofs.Ytmipngefpedfpaa
