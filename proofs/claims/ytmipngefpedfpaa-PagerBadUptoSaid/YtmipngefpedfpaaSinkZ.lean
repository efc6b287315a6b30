/- A region that draws its order, whose last operation waits for all others: the others in whatever order, S holding all the while; then the last one. -/
import Derived.Test.YtmipngefpedfpaaMA
import Derived.OrdersHeld
namespace Go.Proofs.Ytmipngefpedfpaa
open Go Go.RowKit
set_option linter.unusedVariables false
set_option linter.unusedSimpArgs false

section
variable {P : Program} {ops ops' : Array Oper} {md : Region.Mode} {Q : Exit → Act → World → Prop} {S : World → Prop}
def SinkQ (P : Program) (ops : Array Oper) (Q : Exit → Act → World → Prop) (n : Nat) : Exit → Act → World → Prop
  | .normal, a, w => wpOp P ops Q n (fun a w => Q .normal a w) a w
  | e, a, w => Q e a w
def fwdB (md : Region.Mode) (ops : Array Oper) (n : Nat) : Bool :=
  (List.range n).all fun i => match ops[i]? with
    | some o => o.guard.isNone && o.after.all (fun e => !Region.binds md e || decide (e.on < i))
    | none => false
def lastB (md : Region.Mode) (ops : Array Oper) (n : Nat) : Bool :=
  decide (ops.size = n + 1) && (List.range n).all (fun i => (List.range (n + 1)).any fun j => decide (i < j) && Region.waitsFor md ops j i) && (match ops[n]? with
    | some o => o.after.all (fun e => !Region.binds md e || decide (e.on < n))
    | none => false)
theorem fwdB_spec {n i : Nat} (h : fwdB md ops n = true) (hi : i < n) : ∃ o, ops[i]? = some o ∧ o.guard = none ∧ ∀ e ∈ o.after, Region.binds md e = true → e.on < i := by
  have := List.all_eq_true.1 h i (List.mem_range.2 hi)
  split at this
  · rename_i o ho
    simp only [Bool.and_eq_true, Option.isNone_iff_eq_none] at this
    refine ⟨o, ho, this.1, fun e he hb => ?_⟩
    have h2 := Array.all_eq_true'.1 this.2 e he
    simp only [hb, Bool.not_true, Bool.false_or, decide_eq_true_eq] at h2
    exact h2
  · cases this
theorem lets_of {Q Q' : Exit → Act → World → Prop} (h : ∀ e a w, e ≠ .normal → Q' e a w → Q e a w) (hl : LetsOut Q') : LetsOut Q := by
  obtain ⟨a, w, h1⟩ := hl
  exact ⟨a, w, h _ a w (by simp) h1⟩
theorem oper_wp_of {o : Oper} {a : Act} {w : World} {K : Act → World → Prop} {Q Q' : Exit → Act → World → Prop} (h : ∀ e a w, e ≠ .normal → Q' e a w → Q e a w) (hh : o.wp P a w K Q') : o.wp P a w K Q := by
  unfold Oper.wp at *
  generalize (execOp a.eval o).run P w = r at *
  cases r with
  | ok n w' =>
    cases n <;> simp only [Oper.upon] at hh ⊢ <;>
      first
        | exact hh
        | exact Calls.mono hh (fun e w'' he => by
            cases e <;> first | exact he | exact h _ _ _ (by simp) he | exact lets_of h he)
        | exact hh.elim
  | halt x w' => cases x <;> simp only [Oper.upon] at hh ⊢ <;> first | exact h _ _ _ (by simp) hh | exact hh.elim
theorem wpOp_of {n i : Nat} {o : Oper} (ho : ops[i]? = some o) (ho' : ops'[i]? = some o) (hg : o.guard = none) {K K' : Act → World → Prop} {a : Act} {w : World} (hK : ∀ a w, K' a w → K a w)
    (h : wpOp P ops' (SinkQ P ops Q n) i K' a w) : wpOp P ops Q i K a w := by
  have hw : ∀ ys, Region.wanted o ys = true := fun ys => by simp [Region.wanted, hg]
  unfold wpOp at *
  simp only [ho, ho', hw, if_true] at *
  have hq : ∀ e a w, e ≠ .normal → SinkQ P ops Q n e a w → Q e a w := fun e a w he h => by
    cases e <;> first | exact absurd rfl he | exact h
  rcases h with h | ⟨h1, h2⟩
  · exact .inl (oper_wp_of hq (Oper.wp_mono hK h))
  · exact .inr ⟨h1, lets_of hq h2⟩
def cntU (listed : Array Bool) (n : Nat) : Nat := ((List.range n).filter fun i => !listed.getD i true).length
theorem cntU_set {listed : Array Bool} {n i : Nat} (hi : i < n) (h : listed.getD i true = false) : cntU (listed.setIfInBounds i true) n + 1 = cntU listed n := by
  unfold cntU
  have key : ∀ m, (i < m → ((List.range m).filter fun j => !(listed.setIfInBounds i true).getD j true).length + 1 = ((List.range m).filter fun j => !listed.getD j true).length) ∧ (m ≤ i → ((List.range m).filter fun j => !(listed.setIfInBounds i true).getD j true).length = ((List.range m).filter fun j => !listed.getD j true).length) := by
    intro m
    induction m with
    | zero => exact ⟨fun h => by omega, fun _ => rfl⟩
    | succ m ih =>
      rw [List.range_succ, List.filter_append, List.filter_append, List.length_append, List.length_append]
      by_cases hm : i = m
      · subst hm
        have e1 : (listed.setIfInBounds i true).getD i true = true := by
          by_cases hs : i < listed.size
          · simp [hs]
          · simp [hs]
        refine ⟨fun _ => ?_, fun h => by omega⟩
        rw [ih.2 (Nat.le_refl _)]
        simp only [List.filter_cons, List.filter_nil, e1, h]
        simp
      · rw [show [m].filter (fun j => !(listed.setIfInBounds i true).getD j true) = [m].filter (fun j => !listed.getD j true) by
          simp only [List.filter_cons, List.filter_nil]; rw [getD_set_ne true hm]]
        exact ⟨fun h => by have := ih.1 (by omega); omega, fun h => by have := ih.2 (by omega); omega⟩
  exact (key n).1 hi
theorem cntU_zero {listed : Array Bool} {n i : Nat} (h : cntU listed n = 0) (hi : i < n) : listed.getD i true = true := by
  unfold cntU at h
  rw [List.length_eq_zero_iff, List.filter_eq_nil_iff] at h
  have := h i (List.mem_range.2 hi)
  simpa using this
theorem cntU_least {listed : Array Bool} {n : Nat} (h : 0 < cntU listed n) : ∃ i, i < n ∧ listed.getD i true = false ∧ ∀ j, j < i → listed.getD j true = true := by
  have hex : ∃ i, i < n ∧ listed.getD i true = false := by
    apply Classical.byContradiction
    intro hne
    have : cntU listed n = 0 := by
      unfold cntU
      rw [List.length_eq_zero_iff, List.filter_eq_nil_iff]
      intro i hi
      have h1 : ¬ listed.getD i true = false := fun e => hne ⟨i, List.mem_range.1 hi, e⟩
      simpa using h1
    omega
  have key : ∀ m, (∃ i, i < m ∧ i < n ∧ listed.getD i true = false) → ∃ i, i < n ∧ listed.getD i true = false ∧ ∀ j, j < i → listed.getD j true = true := by
    intro m
    induction m with
    | zero => rintro ⟨i, h, _⟩; omega
    | succ m ih =>
      rintro ⟨i, h1, h2, h3⟩
      by_cases hs : ∃ i, i < m ∧ i < n ∧ listed.getD i true = false
      · exact ih hs
      · have him : i = m := by
          rcases Nat.lt_or_ge i m with h | h
          · exact absurd ⟨i, h, h2, h3⟩ hs
          · omega
        subst him
        refine ⟨i, h2, h3, fun j hj => ?_⟩
        have : ¬ listed.getD j true = false := fun e => hs ⟨j, hj, by omega, e⟩
        simpa using this
  obtain ⟨i, h1, h2⟩ := hex
  exact key (i + 1) ⟨i, by omega, h1, h2⟩
theorem getD_ft {listed : Array Bool} {i : Nat} (hs : i < listed.size) (h : listed.getD i true = true) : listed.getD i false = true := by
  simp [hs] at h ⊢; exact h
theorem wpAny_sink {n : Nat} (hpre : ∀ i, i < n → ops[i]? = ops'[i]?) (hs2 : ops'.size = n) (hfwd : fwdB md ops n = true) (hlast : lastB md ops n = true) :
    ∀ (f : Nat) (listed listed' : Array Bool) (a : Act) (w : World), listed.size = n + 1 → listed'.size = n → (∀ i, i < n → listed.getD i true = listed'.getD i true) → listed.getD n true = false → cntU listed n = f → (∀ j oj, j < n → ops[j]? = some oj → listed.getD j true = true → ∀ e ∈ oj.after, Region.binds md e = true → listed.getD e.on true = true) →
      wpAny P md ops' (SinkQ P ops Q n) f listed' a w → wpAny P md ops Q (f + 1) listed a w := by
  simp only [lastB, Bool.and_eq_true, decide_eq_true_eq] at hlast
  obtain ⟨⟨hs1, hw⟩, hl⟩ := hlast
  have hwait : ∀ i, i < n → ∃ j, i < j ∧ j ≤ n ∧ ∃ oj, ops[j]? = some oj ∧ ∃ e ∈ oj.after, Region.binds md e = true ∧ e.on = i := fun i hi => by
    obtain ⟨j, hj, hj2⟩ := List.any_eq_true.1 (List.all_eq_true.1 hw i (List.mem_range.2 hi))
    simp only [Bool.and_eq_true, decide_eq_true_eq] at hj2
    exact ⟨j, hj2.1, by have := List.mem_range.1 hj; omega, Region.waitsFor_spec hj2.2⟩
  obtain ⟨on, hon⟩ : ∃ on, ops[n]? = some on := ⟨ops[n]'(by omega), by simp [hs1]⟩
  have honf : ∀ e ∈ on.after, Region.binds md e = true → e.on < n := by
    rw [hon] at hl
    simp only at hl
    intro e he hb
    have h2 := Array.all_eq_true'.1 hl e he
    simp only [hb, Bool.not_true, Bool.false_or, decide_eq_true_eq] at h2
    exact h2
  intro f
  induction f with
  | zero =>
    intro listed listed' a w z1 z2 hr hn hc hcl h
    have hall : ∀ i, i < n → listed.getD i true = true := fun i hi => cntU_zero hc hi
    have hnr : n ∈ Region.ready md ops listed := mem_ready.2 ⟨hn, on, hon, fun e he hb => getD_ft (by have := honf e he hb; omega) (hall _ (honf e he hb))⟩
    refine ⟨fun h0 => (by rw [h0] at hnr; cases hnr), fun i hi => ?_⟩
    obtain ⟨hi1, oi, hoi, _⟩ := mem_ready.1 hi
    have hlt : i < n + 1 := by have := (Array.getElem?_eq_some_iff.1 hoi).1; omega
    have hin : i = n := by
      rcases Nat.lt_or_ge i n with h | h
      · rw [hall i h] at hi1; cases hi1
      · omega
    subst hin
    refine wpOp_mono (fun a' w' hq => ?_) h.2
    refine ⟨?_, hq⟩
    rw [List.eq_nil_iff_forall_not_mem]
    intro j hj
    obtain ⟨hj1, oj, hoj, _⟩ := mem_ready.1 hj
    have hlt : j < i + 1 := by have := (Array.getElem?_eq_some_iff.1 hoj).1; omega
    by_cases hji : i = j
    · subst hji
      simp [z1] at hj1
    · rw [getD_set_ne true hji, hall j (by omega)] at hj1
      cases hj1
  | succ f ih =>
    intro listed listed' a w z1 z2 hr hn hc hcl h
    obtain ⟨i0, hi0, hu0, hl0⟩ := cntU_least (listed := listed) (n := n) (by omega)
    have hready : ∀ i, i ∈ Region.ready md ops listed → i < n ∧ i ∈ Region.ready md ops' listed' := fun i hi => by
      obtain ⟨hi1, oi, hoi, hal⟩ := mem_ready.1 hi
      have hlt : i < n + 1 := by have := (Array.getElem?_eq_some_iff.1 hoi).1; omega
      have hin : i < n := by
        rcases Nat.lt_or_ge i n with h | h
        · exact h
        · have : i = n := by omega
          subst this
          have hup : ∀ (k m : Nat), i - m = k → m < i → listed.getD m true = false → False := by
            intro k
            induction k using Nat.strongRecOn with
            | _ k ihk =>
              intro m hk hm hum
              obtain ⟨j, hj1, hj2, oj, hoj, e, he, hb, heq⟩ := hwait m hm
              by_cases hji : j = i
              · subst hji
                rw [hoj] at hoi
                cases hoi
                have := hal e he hb
                rw [heq] at this
                rw [getD_both hum] at this
                cases this
              · cases hl : listed.getD j true with
                | true =>
                  have := hcl j oj (by omega) hoj hl e he hb
                  rw [heq, hum] at this
                  cases this
                | false => exact ihk (i - j) (by omega) j rfl (by omega) hl
          exact (hup (i - i0) i0 rfl hi0 hu0).elim
      refine ⟨hin, mem_ready.2 ⟨by rw [← hr i hin]; exact hi1, oi, by rw [← hpre i hin]; exact hoi, fun e he hb => ?_⟩⟩
      obtain ⟨o2, ho2, _, hf2⟩ := fwdB_spec hfwd hin
      rw [hoi] at ho2
      cases ho2
      have hlt2 := hf2 e he hb
      have h1 := hal e he hb
      have h2 : listed.getD e.on true = true := by
        cases hx : listed.getD e.on true with
        | true => rfl
        | false => rw [getD_both hx] at h1; cases h1
      rw [hr e.on (by omega)] at h2
      exact getD_ft (by omega) h2
    have hi0r : i0 ∈ Region.ready md ops listed := by
      obtain ⟨o, ho, _, hf⟩ := fwdB_spec hfwd hi0
      exact mem_ready.2 ⟨hu0, o, ho, fun e he hb => getD_ft (by have := hf e he hb; omega) (hl0 _ (hf e he hb))⟩
    refine ⟨fun h0 => (by rw [h0] at hi0r; cases hi0r), fun i hi => ?_⟩
    obtain ⟨hin, hi'⟩ := hready i hi
    obtain ⟨o, ho, hg, _⟩ := fwdB_spec hfwd hin
    have hiu := (mem_ready.1 hi).1
    refine wpOp_of ho (by rw [← hpre i hin]; exact ho) hg (fun a' w' h' => ?_) (h.2 i hi')
    refine ih (listed.setIfInBounds i true) (listed'.setIfInBounds i true) a' w' (by simpa using z1) (by simpa using z2) (fun j hj => ?_) ?_ (by have := cntU_set hin hiu; omega) (fun j oj hj hoj hlj e he hb => ?_) h'
    · by_cases hij : i = j
      · subst hij
        simp [z1, z2, hin, show i < n + 1 by omega]
      · rw [getD_set_ne true hij, getD_set_ne true hij]
        exact hr j hj
    · rw [getD_set_ne true (by omega)]
      exact hn
    · by_cases hie : i = e.on
      · rw [← hie]
        simp [z1, show i < n + 1 by omega]
      · rw [getD_set_ne true hie]
        by_cases hij : i = j
        · subst hij
          obtain ⟨_, o3, ho3, hal3⟩ := mem_ready.1 hi
          rw [hoj] at ho3
          cases ho3
          have h1 := hal3 e he hb
          cases hx : listed.getD e.on true with
          | true => rfl
          | false => rw [getD_both hx] at h1; cases h1
        · rw [getD_set_ne true hij] at hlj
          exact hcl j oj hj hoj hlj e he hb
/-- The last one. -/
theorem sink_done {n : Nat} {o : Oper} {a : Act} {w : World} (ho : ops[n]? = some o)
    (h : ∀ K' : Act → World → Prop, (∀ a w, Q .normal a w → K' a w) → if Region.wanted o (yielded ops a.tmps) = true then Oper.wp P o a w K' Q else K' (a.put o.dst undef) w) : SinkQ P ops Q n .normal a w := wpOp_step ho h
/-- The beginning. -/
theorem wp_region_sink {id : Nat} {a : Act} {w : World} {l : List Oper} (n : Nat) (hm : P.follows .mixedOrders = true) (hfwd : fwdB .any l.toArray n = true) (hlast : lastB .any l.toArray n = true) (hS : S w.drew)
    (h : S w.drew → wpAnyH P .any (l.take n).toArray (SinkQ P l.toArray Q n) S n (Array.replicate n false) a w.drew) : (Code.region id l.toArray true).wp P Q a w := by
  refine wp_region_any hm ?_
  have hsz : l.toArray.size = n + 1 := by
    simp only [lastB, Bool.and_eq_true, decide_eq_true_eq] at hlast
    exact hlast.1.1
  rw [hsz]
  refine wpAny_sink (ops' := (l.take n).toArray) (fun i hi => by simp [hi]) (by simp at hsz ⊢; omega) hfwd hlast n _ (Array.replicate n false) a _ (by simp) (by simp) (fun i hi => by simp [hi, show i < n + 1 by omega]) (by simp) ?_ (fun j oj hj _ hlj => (by simp [show j < n + 1 by omega] at hlj)) (wpAny_of_held _ _ _ _ (h hS))
  unfold cntU
  rw [List.filter_eq_self.2 (fun i hi => by
    have := List.mem_range.1 hi
    simp [show i < n + 1 by omega])]
  simp
end
end Go.Proofs.Ytmipngefpedfpaa
