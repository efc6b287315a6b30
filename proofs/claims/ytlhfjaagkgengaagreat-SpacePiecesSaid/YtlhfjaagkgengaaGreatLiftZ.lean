/- From a walk to a row: every argument reads behind the call as it read before, if all that lay there lies there unchanged. -/
import Derived.Test.YtlhfjaagkgengaaGreatMA
import Derived.ProofKit
import Derived.OpenShut
import Derived.Lib.SmallJoins
namespace Go.Proofs.YtlhfjaagkgengaaGreat
open Go.ChangeShapes Go.WideShapes Go.ChangeAt Go.RowKit Go.Joins Go.Deep
set_option linter.unusedVariables false

theorem own : ownKnob Tryz.prog.godebug = none := by kernel_rfl
theorem laidOut : laidOutB Tryz.prog = true := by kernel_rfl

theorem trodAll_below {H : Type} {enc : TypeId × Value → H} {P : Program} {W W' : World} (hl : laidOutB P = true) (hb : Below W.heap.size W W') :
    ∀ {ts : List TypeId} {vs : List Value} {ds : List (DataW H)} {ps : List MemPlace}, ts.all (fun t => P.readableRec t && decide (t < P.types.size)) = true →
      DataW.TrodAll enc P W 0 (fun _ => true) true ts vs ds ps → DataW.TrodAll enc P W' 0 (fun b => decide (b < W.heap.size)) true ts vs ds ps
  | [], vs, ds, ps, _, h => by
    obtain ⟨rfl, rfl, rfl⟩ := trodAll_nil h
    rfl
  | t :: ts, vs, ds, ps, hr, h => by
    obtain ⟨v, vs', d, ds', p, q, rfl, rfl, rfl, h0, r0⟩ := trodAll_cons h
    simp only [List.all_cons, Bool.and_eq_true, decide_eq_true_eq] at hr
    refine trodAll_cons_mk (Below.trod hl hr.1.1 hr.1.2 h0 hb ?_) (trodAll_below hl hb hr.2 r0)
    obtain ⟨m, hm⟩ := h0
    exact DataW.trod_lt m _ _ _ hm

section
variable {H : Type} {enc : TypeId × Value → H} {P : Program} {w : World} {spare : Nat → Bool} {held : Bool}
/-- A slice of whatever elements: each element's cells, from the slice's first cell on. -/
theorem rows_of {t e : TypeId} {A : Option Addr} {n c : Nat} {d : DataW H} {p : List MemPlace} (ht : P.underlying t = some (.slice e)) (hC : 0 < P.cellsOf e) (h : DataW.Trod enc P w 0 spare held t (.slice A n c) d p) :
    n ≤ maxLen ∧ (0 < n → ∃ b o, A = some ⟨b, o, none⟩ ∧ b < w.heap.size ∧ ∀ k, k < n → ∃ (cs : List Value) (m : Nat) (x : DataW H × List MemPlace), cs.length = P.cellsOf e ∧ DataW.trod enc P w 0 spare held m e cs = some x ∧ ∀ j, j < P.cellsOf e → w.cell? ⟨b, o + k * P.cellsOf e + j, none⟩ = cs[j]?) := by
  obtain ⟨fuel, hf⟩ := h
  rcases open_slice ht hf with ⟨h0, _⟩ | ⟨a, len, cap, m, n', D, Pl, hcs, _, hl, hm, hmm, _, hi⟩
  · simp [Value.cells] at h0
    obtain ⟨rfl, rfl, rfl⟩ := h0
    exact ⟨by unfold maxLen; omega, fun h => by omega⟩
  · simp [Value.cells] at hcs
    obtain ⟨rfl, rfl, rfl⟩ := hcs
    refine ⟨by omega, fun hn => ?_⟩
    have hlm : n ≤ m := by rw [hmm]; split <;> omega
    have hspot : a.spot = none ∧ a.block < w.heap.size := by
      obtain ⟨cs', hc, _⟩ := hi 0 (by omega)
      obtain ⟨_, hlen, hat⟩ := World.cells?_some hc
      have h0 := hat 0 hC
      rw [Nat.zero_mul] at h0
      have e1 : (a.add 0).add 0 = a := by simp [Addr.add]
      rw [e1, List.getElem?_eq_getElem (by omega)] at h0
      refine ⟨World.cell?_spot h0, ?_⟩
      rcases Nat.lt_or_ge a.block w.heap.size with h1 | h1
      · exact h1
      · simp [World.cell?, Array.getElem?_eq_none h1] at h0
    obtain ⟨b, o, spot⟩ := a
    obtain ⟨rfl, hb⟩ := hspot
    refine ⟨b, o, rfl, hb, fun k hk => ?_⟩
    obtain ⟨cs', hc, ht'⟩ := hi k (by omega)
    obtain ⟨_, hlen, hat⟩ := World.cells?_some hc
    refine ⟨cs', n', _, hlen, ht', fun j hj => ?_⟩
    have := hat j hj
    rwa [add_plain, add_plain] at this
/-- The j-th cell of a struct of one-cell fields, with its own reading. -/
theorem field_of {e : TypeId} {fs : Array Field} {m : Nat} {cs : List Value} {x : DataW H × List MemPlace} (he : P.underlying e = some (.struct fs)) (hone : oneCellFields P fs = true) (hC : P.cellsOf e = fs.size) (h : DataW.trod enc P w 0 spare held m e cs = some x)
    (j : Nat) (f : Field) (hj : fs[j]? = some f) : ∃ (v : Value) (y : DataW H × List MemPlace) (m' : Nat), cs[j]? = some v ∧ DataW.trod enc P w 0 spare held m' f.type [v] = some y := by
  obtain ⟨ys, n', _, _, hlen, hyl, hf⟩ := DataW.trod_struct he h
  obtain ⟨ho, hk⟩ := hone_of hone j f hj
  have hjl : j < fs.size := (Array.getElem?_eq_some_iff.1 hj).1
  have h1 := hf j f hj
  rw [ho, hk] at h1
  have e1 : (cs.drop j).take 1 = [cs[j]'(by omega)] := by
    rw [List.drop_eq_getElem_cons (by omega)]
    rfl
  rw [e1] at h1
  exact ⟨_, _, n', List.getElem?_eq_getElem (by omega), h1.trans (List.getElem?_eq_getElem (by omega))⟩
end
end Go.Proofs.YtlhfjaagkgengaaGreat
