/- Arguments opened: a shape (nine numbers), a list of bytes, a list of lists of bytes, and what their bulk bounds. -/
import Derived.Test.YtlmgihnnphmmhaaMK
import Derived.Test.YtlmgihnnphmmhaaMD
import Derived.Test.YtlmgihnnphmmhaaMA
import Derived.JoinedCond
namespace Go.Proofs.Ytlmgihnnphmmhaa
open Go.ChangeShapes Go.WideShapes Go.ChangeAt Go.RowKit Go.Joins Go.Deep
set_option linter.unusedVariables false
set_option linter.unusedSimpArgs false

theorem bulk_one {H : Type} (d : DataW H) : 1 ≤ Rows.uptoBulk d := by
  cases d with
  | lit l => cases l <;> simp [Rows.uptoBulk]
  | nil => simp [Rows.uptoBulk]
  | ptr d => simp [Rows.uptoBulk]
  | slice elems spare => simp [Rows.uptoBulk]
  | agg parts => simp [Rows.uptoBulk]
  | iface t d => simp [Rows.uptoBulk]
  | map entries => simp [Rows.uptoBulk]
  | held h => simp [Rows.uptoBulk]
theorem bulk_part {H : Type} {d : DataW H} {l : List (DataW H)} (h : d ∈ l) : Rows.uptoBulk d ≤ Rows.uptoBulkAll l := by
  induction l with
  | nil => cases h
  | cons x r ih =>
    simp only [Rows.uptoBulkAll]
    cases List.mem_cons.1 h with
    | inl e => subst e; omega
    | inr e => have := ih e; omega
theorem bulk_app {H : Type} (l r : List (DataW H)) : Rows.uptoBulkAll (l ++ r) = Rows.uptoBulkAll l + Rows.uptoBulkAll r := by
  induction l with
  | nil => simp [Rows.uptoBulkAll]
  | cons x l ih => simp only [List.cons_append, Rows.uptoBulkAll, ih]; omega
theorem bulk_len {H : Type} (l : List (DataW H)) : l.length ≤ Rows.uptoBulkAll l := by
  induction l with
  | nil => simp [Rows.uptoBulkAll]
  | cons x r ih => have := bulk_one x; simp only [Rows.uptoBulkAll, List.length_cons]; omega
theorem bulk_bound {H : Type} {l : List (DataW H)} (hk : Rows.uptoSmall H l = true) : Rows.uptoBulkAll l ≤ 1048576 := of_decide_eq_true hk
theorem cellsCfg : Try.prog.cellsOf 23 = 9 := by kernel_rfl
theorem cellsU8 : Try.prog.cellsOf 5 = 1 := by kernel_rfl
theorem cellsBy : Try.prog.cellsOf 28 = 1 := by kernel_rfl
section
variable {H : Type} {enc : TypeId × Value → H} {w : World}
set_option maxRecDepth 100000 in
theorem open_cfg {base : Nat} {v : Value} {d : DataW H} {p : List MemPlace} (hv : Value.okWide Try.prog w .any base 23 v) (h : DataW.Trod enc Try.prog w 0 (fun _ => true) true 23 v d p) :
    ∃ a0 a1 a2 a3 a4 a5 a6 a7 a8 : Int, v = cfgI a0 a1 a2 a3 a4 a5 a6 a7 a8 := by
  obtain ⟨cs, rfl, hsz⟩ := okWide_struct Try.underlying23 hv
  rw [cellsCfg] at hsz
  obtain ⟨m, hm⟩ := h
  have g := field_of Try.underlying23 (by kernel_rfl) cellsCfg hm
  have gi : ∀ j, j < 9 → ∃ a : Int, cs[j]? = some (.int .i64 a) := fun j hj => by
    have key : ∀ f, (_ : Array Field)[j]? = some f → f.type = 3 → ∃ a : Int, cs[j]? = some (.int .i64 a) := fun f hf ht => by
      obtain ⟨v, y, m', hc, ht'⟩ := g j f hf
      rw [ht] at ht'
      obtain ⟨a, ha, _⟩ := DataW.trod_int Try.underlying3 ht'
      simp at ha
      subst ha
      exact ⟨a, by simpa [Value.cells] using hc⟩
    match j, hj with
    | 0, _ => exact key _ rfl rfl
    | 1, _ => exact key _ rfl rfl
    | 2, _ => exact key _ rfl rfl
    | 3, _ => exact key _ rfl rfl
    | 4, _ => exact key _ rfl rfl
    | 5, _ => exact key _ rfl rfl
    | 6, _ => exact key _ rfl rfl
    | 7, _ => exact key _ rfl rfl
    | 8, _ => exact key _ rfl rfl
  obtain ⟨a0, h0⟩ := gi 0 (by omega)
  obtain ⟨a1, h1⟩ := gi 1 (by omega)
  obtain ⟨a2, h2⟩ := gi 2 (by omega)
  obtain ⟨a3, h3⟩ := gi 3 (by omega)
  obtain ⟨a4, h4⟩ := gi 4 (by omega)
  obtain ⟨a5, h5⟩ := gi 5 (by omega)
  obtain ⟨a6, h6⟩ := gi 6 (by omega)
  obtain ⟨a7, h7⟩ := gi 7 (by omega)
  obtain ⟨a8, h8⟩ := gi 8 (by omega)
  refine ⟨a0, a1, a2, a3, a4, a5, a6, a7, a8, ?_⟩
  unfold cfgI
  refine congrArg Value.agg ?_
  apply Array.ext_getElem?
  intro i
  match i with
  | 0 => exact h0
  | 1 => exact h1
  | 2 => exact h2
  | 3 => exact h3
  | 4 => exact h4
  | 5 => exact h5
  | 6 => exact h6
  | 7 => exact h7
  | 8 => exact h8
  | i + 9 =>
    rw [Array.getElem?_eq_none (by omega), Array.getElem?_eq_none (by simp)]
/-- A slice of bytes that came in. -/
theorem open_by {A : Option Addr} {n c fuel : Nat} {x : DataW H × List MemPlace} (h : DataW.trod enc Try.prog w 0 (fun _ => true) true fuel 28 [.slice A n c] = some x) :
    n ≤ c ∧ n ≤ maxLen ∧ n ≤ Rows.uptoBulk x.1 ∧ ∃ L, SBy w A n L := by
  rcases open_slice1 Try.underlying28 cellsU8 h with ⟨h0, h1⟩ | ⟨a, len, cap, m, n', V, D, Pl, hcs, _, hl, hm, hmm, hx, hi⟩
  · simp at h0
    obtain ⟨rfl, rfl, rfl⟩ := h0
    exact ⟨Nat.le_refl _, by unfold maxLen; omega, Nat.zero_le _, [], SBy.nil _ _⟩
  · simp at hcs
    obtain ⟨rfl, rfl, rfl⟩ := hcs
    have hlm : n ≤ m := by rw [hmm]; split <;> omega
    have hV : ∀ i, i < n → ∃ k : Nat, k < 256 ∧ V i = .int .u8 (k : Nat) := fun i hlt => by
      obtain ⟨a', ha, hd, hw⟩ := DataW.trod_int Try.underlying5 (hi i (by omega)).2
      simp at ha
      have hb : 0 ≤ a' ∧ a' ≤ 255 := by simpa [Lit.wf, IntKind.min, IntKind.max, IntKind.signed, IntKind.bits] using hw
      exact ⟨a'.toNat, by omega, by rw [ha, Int.toNat_of_nonneg hb.1]⟩
    refine ⟨hl, by omega, ?_, (List.range n).map (fun i => if h : i < n then b8 (Classical.choose (hV i h)) else 0), by simp, fun hp => ?_⟩
    · rw [hx]
      show n ≤ Rows.uptoBulkAll _ + Rows.uptoBulkAll _ + 1
      have := bulk_len ((List.range n).map D)
      simp at this
      omega
    · have hspot : a.spot = none ∧ a.block < w.heap.size := by
        have h0 := (hi 0 (by omega)).1
        have e1 : a.add 0 = a := by simp [Addr.add]
        rw [e1] at h0
        refine ⟨World.cell?_spot h0, ?_⟩
        rcases Nat.lt_or_ge a.block w.heap.size with h1 | h1
        · exact h1
        · simp [World.cell?, Array.getElem?_eq_none h1] at h0
      obtain ⟨b, o, spot⟩ := a
      obtain ⟨rfl, hb⟩ := hspot
      refine ⟨b, o, rfl, hb, fun k hk => ?_⟩
      have h1 := (hi k (by omega)).1
      rw [add_plain] at h1
      rw [h1]
      have hs := Classical.choose_spec (hV k hk)
      have he : at8 ((List.range n).map (fun i => if h : i < n then b8 (Classical.choose (hV i h)) else 0)) k = Classical.choose (hV k hk) := by
        rw [at8_get (by simpa using hk)]
        simp only [List.getElem_map, List.getElem_range, hk, dite_true]
        exact b8_lt hs.1
      rw [he]
      exact congrArg some hs.2
/-- A slice of slices of bytes that came in. -/
theorem open_bys {A : Option Addr} {n c : Nat} {d : DataW H} {p : List MemPlace} (h : DataW.Trod enc Try.prog w 0 (fun _ => true) true 36 (.slice A n c) d p) :
    n ≤ maxLen ∧ n ≤ Rows.uptoBulk d ∧ ∃ b, SLs w A n b ∧ lenSum b n ≤ Rows.uptoBulk d := by
  obtain ⟨fuel, hf⟩ := h
  rcases open_slice1 Try.underlying36 cellsBy hf with ⟨h0, h1⟩ | ⟨a, len, cap, m, n', V, D, Pl, hcs, _, hl, hm, hmm, hx, hi⟩
  · simp [Value.cells] at h0
    obtain ⟨rfl, rfl, rfl⟩ := h0
    exact ⟨by unfold maxLen; omega, Nat.zero_le _, fun _ => ⟨none, 0, 0, []⟩, fun h => by omega, Nat.zero_le _⟩
  · simp [Value.cells] at hcs
    obtain ⟨rfl, rfl, rfl⟩ := hcs
    have hlm : n ≤ m := by rw [hmm]; split <;> omega
    have hV : ∀ i, ∃ b : BArg, i < n → V i = b.v ∧ b.In w ∧ b.n ≤ Rows.uptoBulk (D i) := fun i => by
      by_cases hlt : i < n
      · obtain ⟨hc, ht⟩ := hi i (by omega)
        have hform : ∃ A1 n1 c1, V i = .slice A1 n1 c1 := by
          rcases open_slice1 Try.underlying28 cellsU8 ht with ⟨h0, _⟩ | ⟨a, len, cap, _, _, _, _, _, hcs, _⟩
          · simp at h0
            exact ⟨_, _, _, h0⟩
          · simp at hcs
            exact ⟨_, _, _, hcs⟩
        obtain ⟨A1, n1, c1, hv⟩ := hform
        rw [hv] at ht
        obtain ⟨k1, k2, k3, L, k4⟩ := open_by ht
        exact ⟨⟨A1, n1, c1, L⟩, fun _ => ⟨hv, ⟨k4, k1⟩, k3⟩⟩
      · exact ⟨⟨none, 0, 0, []⟩, fun h => absurd h hlt⟩
    have hb := fun i => Classical.choose_spec (hV i)
    have hx1 : d = .slice ((List.range n).map D) ((List.range (m - n)).map fun j => D (n + j)) := congrArg Prod.fst hx
    have hbl : Rows.uptoBulkAll ((List.range n).map D) + 1 ≤ Rows.uptoBulk d := by
      rw [hx1]
      show _ ≤ Rows.uptoBulkAll _ + Rows.uptoBulkAll _ + 1
      omega
    have hlen := bulk_len ((List.range n).map D)
    simp at hlen
    refine ⟨by omega, by omega, fun i => Classical.choose (hV i), fun hp => ?_, ?_⟩
    · have hspot : a.spot = none ∧ a.block < w.heap.size := by
        have h0 := (hi 0 (by omega)).1
        have e1 : a.add 0 = a := by simp [Addr.add]
        rw [e1] at h0
        refine ⟨World.cell?_spot h0, ?_⟩
        rcases Nat.lt_or_ge a.block w.heap.size with h1 | h1
        · exact h1
        · simp [World.cell?, Array.getElem?_eq_none h1] at h0
      obtain ⟨b, o, spot⟩ := a
      obtain ⟨rfl, hbs⟩ := hspot
      refine ⟨b, o, rfl, hbs, fun k hk => ?_⟩
      have h1 := (hi k (by omega)).1
      rw [add_plain, (hb k hk).1] at h1
      exact ⟨h1, (hb k hk).2.1⟩
    · have key : ∀ j, j ≤ n → lenSum (fun i => Classical.choose (hV i)) j ≤ Rows.uptoBulkAll ((List.range j).map D) := fun j => by
        induction j with
        | zero => intro _; exact Nat.zero_le _
        | succ j ih =>
          intro hj
          have h1 := ih (by omega)
          rw [List.range_succ, List.map_append, bulk_app]
          have h2 := (hb j (by omega)).2.2
          show lenSum _ j + _ ≤ _
          simp only [List.map_cons, List.map_nil, Rows.uptoBulkAll]
          omega
      have := key n (Nat.le_refl _)
      omega
end
end Go.Proofs.Ytlmgihnnphmmhaa
