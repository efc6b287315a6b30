/- A region that draws its order: first operations that are quiet in a class of worlds (loads, calls that leave a world of the class), then one operation of whatever kind (a call that writes), then moves of its results. One walk of the text's order serves every order. -/
import Derived.Test.YtgkdggidgaifhaaBase
import Derived.StillTail
import Derived.Deep.Quiet
namespace Go.Proofs.Ytgkdggidgaifhaa
open Go Go.RowKit
set_option linter.unusedVariables false
set_option linter.unusedSimpArgs false

section
variable {P : Program} {ops : Array Oper} {md : Region.Mode} {C : World → Prop}

/-- Operations that only move values. -/
def pureB (o : Oper) : Bool := o.guard.isNone && match o.op with
  | .move _ => true
  | .assign _ => true
  | .extract _ _ => true
  | _ => false
theorem pure_run {o : Oper} (hp : pureB o = true) (P : Program) (a : Act) (w : World) : (∃ v, (execOp a.eval o).run P w = .ok (.value v) w) ∨ ∃ s, (execOp a.eval o).run P w = .halt (.stuck s) w := by
  unfold pureB at hp
  simp only [Bool.and_eq_true] at hp
  obtain ⟨_, hp⟩ := hp
  cases ho : o.op <;> rw [ho] at hp <;> simp only [Bool.false_eq_true] at hp
  case move x => exact .inl ⟨a.eval x, by unfold execOp; rw [ho]; rfl⟩
  case assign x => exact .inl ⟨a.eval x, by unfold execOp; rw [ho]; rfl⟩
  case extract t i =>
    cases ht : a.eval t
    case tuple vs =>
      cases hv : vs[i]? with
      | some v => exact .inl ⟨v, by unfold execOp; rw [ho]; simp only; rw [ht]; unfold Instr.extract; simp only; rw [hv]; rfl⟩
      | none => exact .inr ⟨_, by unfold execOp; rw [ho]; simp only; rw [ht]; unfold Instr.extract; simp only; rw [hv]; rfl⟩
    all_goals exact .inr ⟨_, by unfold execOp; rw [ho]; simp only; rw [ht]; rfl⟩
theorem pure_asks {o : Oper} (hp : pureB o = true) (P : Program) (a : Act) (w : World) : ¬ o.asks P a w := by
  unfold pureB at hp
  simp only [Bool.and_eq_true] at hp
  obtain ⟨_, hp⟩ := hp
  rintro ⟨h, _⟩
  have e : ((execOp a.eval o).runT P w #[]).2 = #[] := by
    cases ho : o.op <;> rw [ho] at hp <;> simp only [Bool.false_eq_true] at hp
    case move x => unfold execOp; rw [ho]; rfl
    case assign x => unfold execOp; rw [ho]; rfl
    case extract t i =>
      cases ht : a.eval t
      case tuple vs =>
        cases hv : vs[i]? with
        | some v => unfold execOp; rw [ho]; simp only; rw [ht]; unfold Instr.extract; simp only; rw [hv]; rfl
        | none => unfold execOp; rw [ho]; simp only; rw [ht]; unfold Instr.extract; simp only; rw [hv]; rfl
      all_goals (unfold execOp; rw [ho]; simp only; rw [ht]; rfl)
  rw [e] at h
  simp at h
theorem still_of_list {Q : Exit → Act → World → Prop} : ∀ (l : List Oper) (a : Act) (w : World), l.all pureB = true → wpList P ops Q l a w → wpStill P ops w (fun a' => Q .normal a' w) l a
  | [], a, w, _, h => h
  | o :: l, a, w, hp, h => by
    simp only [List.all_cons, Bool.and_eq_true] at hp
    have hg : o.guard = none := by
      have := hp.1
      unfold pureB at this
      simp only [Bool.and_eq_true, Option.isNone_iff_eq_none] at this
      exact this.1
    have hw : Region.wanted o (yielded ops a.tmps) = true := by simp [Region.wanted, hg]
    unfold wpList at h
    unfold wpStill
    rw [if_pos hw] at h ⊢
    rcases h with h | h
    · unfold Oper.wp at h
      unfold Oper.still
      rcases pure_run hp.1 P a w with ⟨v, hr⟩ | ⟨s, hr⟩
      · rw [hr] at h ⊢
        rw [Oper.stillUpon_value]
        exact still_of_list l _ w hp.2 h
      · rw [hr] at h
        exact h.elim
    · exact absurd h.1 (pure_asks hp.1 P a w)

/-- Each operation behind number n waits for one from n on. -/
def chainB2 (md : Region.Mode) (ops : Array Oper) (n : Nat) : Bool :=
  (List.range ops.size).all fun t => decide (t ≤ n) || (List.range t).any fun s => decide (n ≤ s) && Region.waitsFor md ops t s

theorem tail_waits2 {n : Nat} {listed : Array Bool} (hs : Region.sinkB md ops n = true) (hc : chainB2 md ops n = true) (hn : n < ops.size) (inv : HeadInv md ops n listed) :
    ∀ (d i : Nat), n - i = d → i < n → listed.getD i true = false → ∀ t, n ≤ t → t ∉ Region.ready md ops listed := by
  intro d
  induction d using Nat.strongRecOn with
  | _ d ih =>
    intro i hd hi hun t ht hr
    obtain ⟨_, ot, hot, hall⟩ := mem_ready.1 hr
    have htlt : t < ops.size := (Array.getElem?_eq_some_iff.1 hot).1
    by_cases htn : t = n
    · subst htn
      have h1 := List.all_eq_true.1 hs i (List.mem_range.2 hi)
      obtain ⟨j, hj, hj2⟩ := List.any_eq_true.1 h1
      simp only [Bool.and_eq_true, decide_eq_true_eq] at hj2
      obtain ⟨oj, hoj, e, he, hb, hon⟩ := Region.waitsFor_spec hj2.2
      have hjle : j ≤ t := by have := List.mem_range.1 hj; omega
      by_cases hjt : j = t
      · subst hjt
        have : oj = ot := Option.some.inj (hoj.symm.trans hot)
        subst this
        have h2 := hall e he hb
        rw [hon, getD_both hun] at h2
        cases h2
      · cases hl : listed.getD j false with
        | true =>
          have h2 := inv.closed j oj hoj hl e he hb
          rw [hon, getD_both hun] at h2
          cases h2
        | false =>
          have hjs : j < listed.size := by rw [inv.size]; omega
          exact ih (t - j) (by omega) j rfl (by omega) (getD_in hjs hl) t (Nat.le_refl _) hr
    · have h1 := List.all_eq_true.1 hc t (List.mem_range.2 htlt)
      simp only [Bool.or_eq_true, decide_eq_true_eq] at h1
      rcases h1 with h1 | h1
      · omega
      · obtain ⟨s, hs1, hs2⟩ := List.any_eq_true.1 h1
        simp only [Bool.and_eq_true, decide_eq_true_eq] at hs2
        have hst := List.mem_range.1 hs1
        obtain ⟨o', ho', e, he, hb, hon⟩ := Region.waitsFor_spec hs2.2
        have : o' = ot := Option.some.inj (ho'.symm.trans hot)
        subst this
        have h2 := hall e he hb
        rw [hon, getD_both (inv.tail s hs2.1 (by omega))] at h2
        cases h2

/-- Whatever order the first n come up in; then L. -/
def wpAnyLQ (P : Program) (md : Region.Mode) (ops : Array Oper) (C : World → Prop) (n : Nat) (L : Array Bool → Act → Prop) : Nat → Array Bool → Act → Prop
  | 0, listed, a => L listed a
  | f + 1, listed, a =>
    Region.ready md ops listed ≠ [] ∧ ∀ i ∈ Region.ready md ops listed, i < n ∧ qOp P ops C i (wpAnyLQ P md ops C n L f (listed.setIfInBounds i true)) a

theorem wpAny_of_headQ {n g : Nat} {L : Array Bool → Act → Prop} {Q' : Exit → Act → World → Prop} (hL : ∀ listed a w, C w → L listed a → wpAny P md ops Q' g listed a w) :
    ∀ (f : Nat) (listed : Array Bool) (a : Act) (w : World), C w → wpAnyLQ P md ops C n L f listed a → wpAny P md ops Q' (f + g) listed a w
  | 0, listed, a, w, hw, h => by rw [Nat.zero_add]; exact hL _ _ _ hw h
  | f + 1, listed, a, w, hw, h => by
    rw [show f + 1 + g = (f + g) + 1 by omega]
    exact ⟨fun h0 => absurd h0 h.1, fun i hi => wpOp_of_qOp hw (fun a' w' hw' h' => wpAny_of_headQ hL f _ a' w' hw' h') (h.2 i hi).2⟩

theorem wpAnyLQ_first {n i : Nat} {oi : Oper} {v : Value} {L : Array Bool → Act → Prop} (hi : ops[i]? = some oi) (hsel : ∀ (j : Nat) (o : Oper) cs b, ops[j]? = some o → o.op ≠ .select cs b)
    (hs : Region.sinkB md ops n = true) (hc : chainB2 md ops n = true) (hn : n < ops.size) (hin : i < n)
    (hdone : ∀ listed a, L listed a → ∀ j ∈ Region.ready md ops listed, n ≤ j) :
    ∀ (f : Nat) (listed : Array Bool) (a : Act), HeadInv md ops n listed →
      (∀ j oj, ops[j]? = some oj → j ≠ i → listed.getD j true = false → (∀ e ∈ oj.after, Region.binds md e = true → e.on ≠ i) → oi.apart ops oj = true) →
      i ∈ Region.ready md ops listed → YieldsIn P ops C oi v a →
      wpAnyLQ P md ops C n L f (listed.setIfInBounds i true) (a.put oi.dst v) → wpAnyLQ P md ops C n L (f + 1) listed a := by
  intro f
  induction f with
  | zero =>
    intro listed a inv _ hr hy H
    have hun := (mem_ready.1 hr).1
    refine ⟨fun h => (by rw [h] at hr; cases hr), fun j hj => ?_⟩
    have hjn : j < n := by
      rcases Nat.lt_or_ge j n with h | h
      · exact h
      · exact absurd hj (tail_waits2 hs hc hn inv _ i rfl hin hun j h)
    refine ⟨hjn, ?_⟩
    by_cases hji : j = i
    · subst hji; exact hy.qOp hi H
    · have := hdone _ _ H j (ready_mono hj hji)
      omega
  | succ f ih =>
    intro listed a inv hfree hr hy H
    have hun := (mem_ready.1 hr).1
    refine ⟨fun h => (by rw [h] at hr; cases hr), fun j hj => ?_⟩
    have hjn : j < n := by
      rcases Nat.lt_or_ge j n with h | h
      · exact h
      · exact absurd hj (tail_waits2 hs hc hn inv _ i rfl hin hun j h)
    refine ⟨hjn, ?_⟩
    by_cases hji : j = i
    · subst hji; exact hy.qOp hi H
    · have h1 := (H.2 j (ready_mono hj hji)).2
      obtain ⟨hjun, oj, hoj, hall⟩ := mem_ready.1 hj
      have hnot : ∀ e ∈ oj.after, Region.binds md e = true → e.on ≠ i := fun e he hb heq => by
        have h1 := hall e he hb
        rw [heq, getD_both hun] at h1
        cases h1
      have h2 := qOp_put hoj (hfree j oj hoj hji hjun hnot) (fun cs b => hsel i oi cs b hi) (fun cs b => hsel j oj cs b hoj) hy h1
      have hfree' : ∀ k ok, ops[k]? = some ok → k ≠ i → (listed.setIfInBounds j true).getD k true = false →
          (∀ e ∈ ok.after, Region.binds md e = true → e.on ≠ i) → oi.apart ops ok = true := fun k ok hk hki hun hno => by
        refine hfree k ok hk hki ?_ hno
        by_cases hjk : j = k
        · subst hjk; exact hjun
        · rw [getD_set_ne true hjk] at hun; exact hun
      refine qOp_mono (fun a' h3 => ih (listed.setIfInBounds j true) a' (inv.set hj hjn) hfree' (ready_mono hr (Ne.symm hji)) h3.1 ?_) h2
      rw [Array.setIfInBounds_comm _ _ hji]
      exact h3.2

/-- The one operation, then the rest in whatever order. -/
def oneB (md : Region.Mode) (ops : Array Oper) (g n : Nat) (listed : Array Bool) : Bool :=
  decide (Region.ready md ops listed = [n]) && Region.lexFrom md ops g (n + 1) (listed.setIfInBounds n true)
def lexHead2 (md : Region.Mode) (ops : Array Oper) (g n : Nat) : Nat → Nat → Array Bool → Bool
  | 0, _, listed => oneB md ops g n listed
  | f + 1, k, listed => (Region.ready md ops listed).contains k && Region.free md ops listed k && lexHead2 md ops g n f (k + 1) (listed.setIfInBounds k true)
def lexTail2 (md : Region.Mode) (ops : Array Oper) (n : Nat) : Bool :=
  Region.noSelect ops && decide (n < ops.size) && Region.sinkB md ops n && chainB2 md ops n && lexHead2 md ops (ops.size - n - 1) n n 0 (Array.replicate ops.size false)

theorem wpAnyLQ_lex {n g : Nat} {Lq : Act → Prop} (hsel : Region.noSelect ops = true) (hs : Region.sinkB md ops n = true) (hc : chainB2 md ops n = true) (hn : n < ops.size) :
    ∀ (l : List Oper) (k : Nat) (listed : Array Bool) (a : Act), (∀ j, j < l.length → l[j]? = ops[k + j]?) → k + l.length = n → HeadInv md ops n listed →
    lexHead2 md ops g n l.length k listed = true → wpQuiet P ops C Lq l a →
    wpAnyLQ P md ops C n (fun listed' a' => oneB md ops g n listed' = true ∧ Lq a') l.length listed a
  | [], k, listed, a, _, hk, _, hB, h => ⟨by simpa [lexHead2] using hB, h⟩
  | o :: l, k, listed, a, hl, hk, inv, hB, h => by
    have h0 : ops[k]? = some o := by simpa using (hl 0 (by simp)).symm
    simp only [List.length_cons, lexHead2, Bool.and_eq_true] at hB
    obtain ⟨⟨hr, hf⟩, hB'⟩ := hB
    have hkn : k < n := by simp only [List.length_cons] at hk; omega
    have hr' : k ∈ Region.ready md ops listed := by simpa using hr
    have hst : qOp P ops C k (wpQuiet P ops C Lq l) a := by unfold qOp; simp only [h0]; exact h
    obtain ⟨v, hy, hK⟩ := yieldsIn_of_qOp h0 hst
    exact wpAnyLQ_first h0 (Region.noSelect_spec hsel) hs hc hn hkn (fun listed' a' hL j hj => by
        have h1 := hL.1
        simp only [oneB, Bool.and_eq_true, decide_eq_true_eq] at h1
        rw [h1.1] at hj
        simp at hj
        omega) l.length listed a inv (Region.free_spec h0 hf) hr' hy
      (wpAnyLQ_lex hsel hs hc hn l (k + 1) _ _ (fun j hj => by have := hl (j + 1) (by simp; omega); simpa [Nat.add_assoc, Nat.add_comm 1 j] using this) (by simp only [List.length_cons] at hk; omega) (inv.set hr' hkn) hB' hK)

theorem wp_region_quiet_tail {id : Nat} {Q : Exit → Act → World → Prop} {a : Act} {w : World} {l : List Oper} (n : Nat) (hm : P.follows .mixedOrders = true) (hB : lexTail2 .any l.toArray n = true) (hp : (l.drop (n + 1)).all pureB = true)
    (hC : C { w with drawn := w.drawn + 1 }) (h : wpQuiet P l.toArray C (fun a' => ∀ w', C w' → wpList P l.toArray Q (l.drop n) a' w') (l.take n) a) : (Code.region id l.toArray true).wp P Q a w := by
  simp only [lexTail2, Bool.and_eq_true, decide_eq_true_eq] at hB
  obtain ⟨⟨⟨⟨hsel, hn⟩, hs⟩, hc⟩, hlex⟩ := hB
  have hn' : n < l.length := by simpa using hn
  have htl : (l.take n).length = n := by simp; omega
  have hon : l.toArray[n]? = some l[n] := by simp [hn']
  have hdl : (l.drop (n + 1)).length = l.toArray.size - n - 1 := by simp; omega
  have inv0 : HeadInv .any l.toArray n (Array.replicate l.toArray.size false) :=
    ⟨by simp, fun j oj _ hl => (by rw [getD_replicate_false] at hl; cases hl), fun t _ ht => getD_in (by simpa using ht) (getD_replicate_false _ _)⟩
  have H := wpAnyLQ_lex (P := P) (C := C) (md := .any) (g := l.toArray.size - n - 1) hsel hs hc hn (l.take n) 0 _ a (fun j hj => by
    have hj' : j < n := by rw [htl] at hj; exact hj
    simp [hj']) (by simpa using htl) inv0 (by rw [htl]; exact hlex) h
  refine wp_region_any hm ?_
  have := wpAny_of_headQ (Q' := Q) (g := l.toArray.size - n) (fun listed a' w' hw' hL => by
    obtain ⟨h1, h2⟩ := hL
    simp only [oneB, Bool.and_eq_true, decide_eq_true_eq] at h1
    have h3 := h2 w' hw'
    rw [List.drop_eq_getElem_cons hn'] at h3
    rw [show l.toArray.size - n = (l.toArray.size - n - 1) + 1 by omega]
    refine ⟨fun h0 => (by rw [h1.1] at h0; cases h0), fun i hi => ?_⟩
    rw [h1.1] at hi
    have hin : i = n := by simpa using hi
    subst hin
    have hop : wpOp P l.toArray Q i (wpList P l.toArray Q (l.drop (i + 1))) a' w' := by unfold wpOp; simp only [hon]; exact h3
    refine wpOp_mono (fun a2 w2 h4 => ?_) hop
    have h5 := still_of_list _ a2 w2 hp h4
    have h6 := wpAnyS_lex (md := .any) hsel (l.drop (i + 1)) (i + 1) (listed.setIfInBounds i true) a2 (fun j => by simp [List.getElem?_drop]) (by rw [hdl]; exact h1.2) h5
    rw [hdl] at h6
    exact wpAny_of_still (fun _ h => h) _ _ _ h6) _ _ _ _ hC H
  rw [htl, show n + (l.toArray.size - n) = l.toArray.size by omega] at this
  exact this

/-- The class: worlds above W. -/
theorem wp_region_up_tail {id : Nat} {Q : Exit → Act → World → Prop} {a : Act} {w : World} {l : List Oper} (n : Nat) (hm : P.follows .mixedOrders = true) (hB : lexTail2 .any l.toArray n = true) (hp : (l.drop (n + 1)).all pureB = true)
    (h : wpQuiet P l.toArray (fun w' => ∃ g : Up w, w' = g.world) (fun a' => ∀ w', (∃ g : Up w, w' = g.world) → wpList P l.toArray Q (l.drop n) a' w') (l.take n) a) : (Code.region id l.toArray true).wp P Q a w :=
  wp_region_quiet_tail (C := fun w' => ∃ g : Up w, w' = g.world) n hm hB hp ⟨⟨_, (Below.refl _ _).drew⟩, rfl⟩ h
/-- From a world above W on, always seen from W. -/
theorem wp_region_upW {W : World} {g : Up W} {id : Nat} {Q : Exit → Act → World → Prop} {a : Act} {l : List Oper} (hm : P.follows .mixedOrders = true) (hB : Region.lexB .any l.toArray = true)
    (h : wpQuiet P l.toArray (fun w' => ∃ g : Up W, w' = g.world) (fun a' => ∀ w', (∃ g : Up W, w' = g.world) → Q .normal a' w') l a) : (Code.region id l.toArray true).wp P Q a g.world :=
  wp_region_quiet (C := fun w' => ∃ g : Up W, w' = g.world) hm hB ⟨⟨_, g.h.drew⟩, rfl⟩ (by simpa using h)
theorem wp_region_upW_tail {W : World} {g : Up W} {id : Nat} {Q : Exit → Act → World → Prop} {a : Act} {l : List Oper} (n : Nat) (hm : P.follows .mixedOrders = true) (hB : lexTail2 .any l.toArray n = true) (hp : (l.drop (n + 1)).all pureB = true)
    (h : wpQuiet P l.toArray (fun w' => ∃ g : Up W, w' = g.world) (fun a' => ∀ w', (∃ g : Up W, w' = g.world) → wpList P l.toArray Q (l.drop n) a' w') (l.take n) a) : (Code.region id l.toArray true).wp P Q a g.world :=
  wp_region_quiet_tail (C := fun w' => ∃ g : Up W, w' = g.world) n hm hB hp ⟨⟨_, g.h.drew⟩, rfl⟩ h
/-- A call that makes memory alone, in a world above W. -/
theorem calls_upW {W : World} {g : Up W} {f : FuncId} {args : Array Value} {v : Value} {Q : Ending → World → Prop} (h : Calls P f args g.world fun e w' => e = .returned v ∧ Below g.world.heap.size g.world w') (H : ∀ g' : Up W, Q (.returned v) g'.world) : Calls P f args g.world Q :=
  h.mono fun e w' ⟨he, hb⟩ => by subst he; exact H ⟨w', g.h.trans (hb.mono g.h.size)⟩
theorem wp_upW {W : World} {c : Code} {Q : Exit → Act → World → Prop} {a : Act} (H : ∀ g : Up W, c.wp P Q a g.world) : c.wp P Q a W := H ⟨W, Below.refl _ _⟩
end
end Go.Proofs.Ytgkdggidgaifhaa
