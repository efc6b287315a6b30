/- A range over a map that the loop does not write. -/
import Derived.Test.YtlhfjaagkgengaaGreatMA
import Derived.Maps.RangeRun
namespace Go.Proofs.YtlhfjaagkgengaaGreat
open Go.RowKit Go.Maps Go.MapKept
open Go.ChangeMaps (setBlock)
set_option linter.unusedVariables false
set_option linter.unusedSimpArgs false

/-- A range over the map b is under way, its iterator in block r; these keys are left. -/
def ItIs (P : Program) (k : TypeId) (w : World) (b r : Nat) (f : Value → Option Value) (left : Value → Prop) (cnt : Nat) : Prop :=
  ∃ es clock seen, w.heap[b]? = some (.map es clock) ∧ w.heap[r]? = some (.mapIter (some b) clock seen clock) ∧ Stamped es clock ∧ (∀ x ∈ es.toList, ∃ l, keyOf P k x.key = some l) ∧ (∀ x ∈ es.toList, f x.key = some x.val) ∧ (∀ key v, f key = some v → ∃ x ∈ es.toList, x.key = key) ∧
    (∀ x ∈ es.toList, left x.key ↔ seen.contains x.born = false) ∧ cnt = (leftOf es seen).size
section
variable {P : Program} {k t e : TypeId} {w w' : World} {b r c : Nat} {f : Value → Option Value} {left : Value → Prop} {cnt : Nat}
theorem ItIs.of_block (h : ItIs P k w b r f left cnt) (hb : w'.heap[b]? = w.heap[b]?) (hr : w'.heap[r]? = w.heap[r]?) : ItIs P k w' b r f left cnt := by
  obtain ⟨es, clock, seen, h1, h2, h3⟩ := h
  exact ⟨es, clock, seen, hb.trans h1, hr.trans h2, h3⟩
theorem ItIs.lt (h : ItIs P k w b r f left cnt) : b < w.heap.size ∧ r < w.heap.size := by
  obtain ⟨es, clock, seen, h1, h2, _⟩ := h
  exact ⟨(Array.getElem?_eq_some_iff.1 h1).1, (Array.getElem?_eq_some_iff.1 h2).1⟩
theorem ItIs.off {S : Nat → Prop} (h : ItIs P k w b r f left cnt) (ho : Off S w w') (hb : ¬ S b) (hr : ¬ S r) : ItIs P k w' b r f left cnt := h.of_block (ho.block b h.lt.1 hb) (ho.block r h.lt.2 hr)
theorem ItIs.left_eq (h : ItIs P k w b r f left cnt) : w.rangeLeft b r = cnt := by
  obtain ⟨es, clock, seen, hb, hr, _, _, _, _, _, hc⟩ := h
  rw [hc]
  simp only [World.rangeLeft, hb, hr]
theorem MapIs.range (h : MapIs P k w b f c) (ht : P.underlying t = some (.map k e)) :
    ∃ w', (Instr.range t (.map (some b))).run P w = .ok (.pointer (some ⟨w.heap.size, 0, none⟩)) w' ∧ ItIs P k w' b w.heap.size f (fun _ => True) c ∧ Below w.heap.size w w' := by
  obtain ⟨es, clock, hb, hst, hc, hk, h1, h2⟩ := h
  have hlt := (Array.getElem?_eq_some_iff.1 hb).1
  refine ⟨_, run_range_map w t k e b es clock ht hb, ⟨es, clock, #[], ?_, heap_alloc_new _ _, hst, hk, h1, h2, fun x _ => by simp, ?_⟩, (Below.refl _ _).alloc (Nat.le_refl _) _⟩
  · rw [heap_alloc_old _ _ hlt]
    exact hb
  · rw [← hc]
    unfold leftOf
    rw [Array.filter_eq_self.2 (by simp)]
/-- The next one, whichever; or none is left. -/
theorem ItIs.next (h : ItIs P k w b r f left cnt) (hbr : b ≠ r) :
    (cnt = 0 ∧ (∀ key v, f key = some v → ¬ left key) ∧ ∀ ty, (Instr.next (.pointer (some ⟨r, 0, none⟩)) false ty).run P w = .ok (.tuple #[.bool false]) w) ∨
    ∃ key val w2, f key = some val ∧ left key ∧ 0 < cnt ∧ (∃ l, keyOf P k key = some l) ∧ (∀ ty, (Instr.next (.pointer (some ⟨r, 0, none⟩)) false ty).run P w = .ok (.tuple #[.bool true, key, val]) w2) ∧ Off (· = r) w w2 ∧ w2.heap.size = w.heap.size ∧
      ItIs P k w2 b r f (fun x => left x ∧ x ≠ key) (cnt - 1) ∧ (Instr.entry (.pointer (some ⟨r, 0, none⟩))).run P w2 = .ok (.tuple #[key, val]) w2 := by
  obtain ⟨es, clock, seen, hb, hr, hst, hk, h1, h2, hl, hc⟩ := h
  have hone := run_next_at (P := P) w
  have hlr := (Array.getElem?_eq_some_iff.1 hr).1
  have memL : ∀ (s : Array Nat) (x : MapEntry), x ∈ (leftOf es s).toList ↔ x ∈ es.toList ∧ s.contains x.born = false := fun s x => by unfold leftOf; simp
  rcases run_next_at (P := P) w 0 r b clock clock seen es clock hr hb hst.1 (Nat.le_refl _) with ⟨h0, hn⟩ | ⟨e0, he0, w1, hw1, hn⟩
  · refine .inl ⟨by omega, fun key v hf hlk => ?_, fun ty => hn⟩
    obtain ⟨x, hx, rfl⟩ := h2 key v hf
    have := (memL seen x).2 ⟨hx, (hl x hx).1 hlk⟩
    have he : leftOf es seen = #[] := Array.eq_empty_of_size_eq_zero h0
    rw [he] at this
    simp at this
  · right
    obtain ⟨m1, m2⟩ := (memL seen e0).1 he0
    have hpos : 0 < (leftOf es seen).size := by
      rcases Nat.eq_zero_or_pos (leftOf es seen).size with h | h
      · have he : leftOf es seen = #[] := Array.eq_empty_of_size_eq_zero h
        rw [he] at he0
        simp at he0
      · exact h
    have hsz1 : w1.heap = w.heap := by rcases hw1 with rfl | rfl <;> rfl
    have ho : Off (· = r) w (setBlock w1 r (.mapIter (some b) clock (seen.push e0.born) clock)) := by
      refine (show Off (· = r) w w1 from ?_).trans (off_setBlock _ _ _ _ rfl)
      rcases hw1 with rfl | rfl
      · exact Off.refl _ _
      · exact (Off.refl _ _).drew
    have hbb : (setBlock w1 r (.mapIter (some b) clock (seen.push e0.born) clock)).heap[b]? = some (.map es clock) := (ho.block b (Array.getElem?_eq_some_iff.1 hb).1 hbr).trans hb
    have hrr : (setBlock w1 r (.mapIter (some b) clock (seen.push e0.born) clock)).heap[r]? = some (.mapIter (some b) clock (seen.push e0.born) clock) := by
      simp [setBlock, hsz1, hlr]
    refine ⟨e0.key, e0.val, _, h1 e0 m1, (hl e0 m1).2 m2, by omega, hk e0 m1, fun ty => hn, ho, by simp [setBlock, hsz1], ⟨es, clock, seen.push e0.born, hbb, hrr, hst, hk, h1, h2, fun x hx => ?_, ?_⟩, run_entry_at _ r b clock seen es clock e0 hrr hbb m1 hst.2.1⟩
    · have hxe : x.key = e0.key ↔ x.born = e0.born := by
        obtain ⟨i, hi⟩ := List.mem_iff_getElem?.1 hx
        obtain ⟨j, hj⟩ := List.mem_iff_getElem?.1 m1
        have il := (List.getElem?_eq_some_iff.1 hi).1
        constructor
        · intro e
          have e1 : (es.toList.map (·.key))[i]? = (es.toList.map (·.key))[j]? := by rw [List.getElem?_map, List.getElem?_map, hi, hj]; simp [e]
          have := (List.getElem?_inj (by simpa using il) hst.2.2).1 e1
          subst this
          rw [hi] at hj
          cases hj
          rfl
        · intro e
          have e1 : (es.toList.map (·.born))[i]? = (es.toList.map (·.born))[j]? := by rw [List.getElem?_map, List.getElem?_map, hi, hj]; simp [e]
          have := (List.getElem?_inj (by simpa using il) hst.2.1).1 e1
          subst this
          rw [hi] at hj
          cases hj
          rfl
      show (left x.key ∧ x.key ≠ e0.key) ↔ _
      rw [contains_push, hl x hx]
      by_cases e : x.born = e0.born
      · simp [e, hxe.2 e]
      · have e2 : ¬ x.key = e0.key := fun h => e (hxe.1 h)
        simp [e, e2]
    · rw [hc]
      have hcnt : ∀ (l : List MapEntry), (l.map (·.born)).Nodup → e0 ∈ l → (l.filter (fun x => !seen.contains x.born)).length = (l.filter (fun x => !(seen.push e0.born).contains x.born)).length + 1 := by
        intro l hnd hml
        have hm0 : (!seen.contains e0.born) = true := by simpa using m2
        induction l with
        | nil => simp at hml
        | cons y l ih =>
          have hn' : y.born ∉ l.map (·.born) ∧ (l.map (·.born)).Nodup := List.nodup_cons.1 hnd
          rcases List.mem_cons.1 hml with rfl | hin
          · have hr2 : l.filter (fun x => !(seen.push e0.born).contains x.born) = l.filter (fun x => !seen.contains x.born) := by
              refine List.filter_congr fun x hx => ?_
              have : x.born ≠ e0.born := fun e => hn'.1 (by rw [← e]; exact List.mem_map.2 ⟨x, hx, rfl⟩)
              rw [contains_push]
              simp [this]
            rw [List.filter_cons, if_pos hm0, List.filter_cons, if_neg (by rw [contains_push]; simp), hr2]
            rfl
          · have hne : y.born ≠ e0.born := fun e => hn'.1 (by rw [e]; exact List.mem_map.2 ⟨e0, hin, rfl⟩)
            have ih2 := ih hn'.2 hin
            have hy : (!(seen.push e0.born).contains y.born) = (!seen.contains y.born) := by rw [contains_push]; simp [hne]
            rw [List.filter_cons, List.filter_cons, hy]
            split
            · simp only [List.length_cons]; omega
            · exact ih2
      have e3 := hcnt es.toList hst.2.1 m1
      have e4 : ∀ s : Array Nat, (leftOf es s).size = (es.toList.filter (fun x => !s.contains x.born)).length := fun s => by unfold leftOf; rw [← Array.length_toList, Array.toList_filter]
      rw [e4, e4, e3]
      rfl
end
open Classical in
noncomputable def goneF (f : Value → Option Value) (left : Value → Prop) : Value → Option Value := fun v => if left v then none else f v
theorem goneF_all (f : Value → Option Value) : goneF f (fun _ => True) = fun _ => none := by funext v; simp [goneF]
theorem goneF_none {f : Value → Option Value} {left : Value → Prop} (h : ∀ key v, f key = some v → ¬ left key) : goneF f left = f := by
  funext v
  unfold goneF
  split
  · rename_i hl
    cases hf : f v with
    | none => rfl
    | some x => exact absurd hl (h v x hf)
  · rfl
theorem goneF_step {f : Value → Option Value} {left : Value → Prop} {key val : Value} (hf : f key = some val) : putK (goneF f left) key val = goneF f (fun x => left x ∧ x ≠ key) := by
  funext v
  unfold putK goneF
  by_cases e : v = key
  · subst e
    simp [hf]
  · rw [if_neg e]
    by_cases hl : left v
    · rw [if_pos hl, if_pos ⟨hl, e⟩]
    · rw [if_neg hl, if_neg (fun h => hl h.1)]
end Go.Proofs.YtlhfjaagkgengaaGreat
