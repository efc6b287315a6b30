/- A region that draws its order, whose call is followed by moves, some of them guarded, '!' and picks. -/
import Derived.Test.YtgkdggidgaifhaaReg
namespace Go.Proofs.Ytgkdggidgaifhaa
open Go Go.RowKit
set_option linter.unusedVariables false
set_option linter.unusedSimpArgs false

section
variable {P : Program} {ops : Array Oper} {md : Region.Mode} {C : World → Prop}
def pureG (o : Oper) : Bool := match o.op with
  | .move _ => true
  | .assign _ => true
  | .extract _ _ => true
  | .pick _ _ _ => true
  | .unOp .not _ _ => true
  | _ => false
theorem pureG_run {o : Oper} (hp : pureG o = true) (P : Program) (a : Act) (w : World) : ((∃ v, (execOp a.eval o).run P w = .ok (.value v) w) ∨ ∃ s, (execOp a.eval o).run P w = .halt (.stuck s) w) ∧ ((execOp a.eval o).runT P w #[]).2 = #[] := by
  unfold pureG at hp
  cases ho : o.op <;> rw [ho] at hp <;> simp only [Bool.false_eq_true] at hp
  case move x => exact ⟨.inl ⟨a.eval x, by unfold execOp; rw [ho]; rfl⟩, by unfold execOp; rw [ho]; rfl⟩
  case assign x => exact ⟨.inl ⟨a.eval x, by unfold execOp; rw [ho]; rfl⟩, by unfold execOp; rw [ho]; rfl⟩
  case extract t i =>
    cases ht : a.eval t
    case tuple vs =>
      cases hv : vs[i]? with
      | some v => exact ⟨.inl ⟨v, by unfold execOp; rw [ho]; simp only; rw [ht]; unfold Instr.extract; simp only; rw [hv]; rfl⟩, by unfold execOp; rw [ho]; simp only; rw [ht]; unfold Instr.extract; simp only; rw [hv]; rfl⟩
      | none => exact ⟨.inr ⟨_, by unfold execOp; rw [ho]; simp only; rw [ht]; unfold Instr.extract; simp only; rw [hv]; rfl⟩, by unfold execOp; rw [ho]; simp only; rw [ht]; unfold Instr.extract; simp only; rw [hv]; rfl⟩
    all_goals exact ⟨.inr ⟨_, by unfold execOp; rw [ho]; simp only; rw [ht]; rfl⟩, by unfold execOp; rw [ho]; simp only; rw [ht]; rfl⟩
  case pick c x y =>
    cases hc : a.eval c
    case bool b => exact ⟨.inl ⟨if b then a.eval x else a.eval y, by unfold execOp; rw [ho]; simp only; rw [hc]; rfl⟩, by unfold execOp; rw [ho]; simp only; rw [hc]; rfl⟩
    all_goals exact ⟨.inr ⟨_, by unfold execOp; rw [ho]; simp only; rw [hc]; rfl⟩, by unfold execOp; rw [ho]; simp only; rw [hc]; rfl⟩
  case unOp op t x =>
    cases op <;> simp only [Bool.false_eq_true] at hp
    cases hc : a.eval x
    case bool b => exact ⟨.inl ⟨.bool !b, by unfold execOp; rw [ho]; simp only; rw [hc]; rfl⟩, by unfold execOp; rw [ho]; simp only; rw [hc]; rfl⟩
    all_goals exact ⟨.inr ⟨_, by unfold execOp; rw [ho]; simp only; rw [hc]; rfl⟩, by unfold execOp; rw [ho]; simp only; rw [hc]; rfl⟩
theorem still_of_listG {Q : Exit → Act → World → Prop} : ∀ (l : List Oper) (a : Act) (w : World), l.all pureG = true → wpList P ops Q l a w → wpStill P ops w (fun a' => Q .normal a' w) l a
  | [], a, w, _, h => h
  | o :: l, a, w, hp, h => by
    simp only [List.all_cons, Bool.and_eq_true] at hp
    unfold wpList at h
    unfold wpStill
    by_cases hw : Region.wanted o (yielded ops a.tmps) = true
    · rw [if_pos hw] at h ⊢
      rcases h with h | h
      · unfold Oper.wp at h
        unfold Oper.still
        rcases (pureG_run hp.1 P a w).1 with ⟨v, hr⟩ | ⟨s, hr⟩
        · rw [hr] at h ⊢
          rw [Oper.stillUpon_value]
          exact still_of_listG l _ w hp.2 h
        · rw [hr] at h
          exact h.elim
      · exfalso
        have e := (pureG_run hp.1 P a w).2
        obtain ⟨⟨h1, _⟩, _⟩ := h
        rw [e] at h1
        simp at h1
    · rw [if_neg hw] at h ⊢
      exact still_of_listG l _ w hp.2 h
theorem wp_region_quiet_tailG {id : Nat} {Q : Exit → Act → World → Prop} {a : Act} {w : World} {l : List Oper} (n : Nat) (hm : P.follows .mixedOrders = true) (hB : lexTail2 .any l.toArray n = true) (hp : (l.drop (n + 1)).all pureG = true)
    (hC : C { w with drawn := w.drawn + 1 }) (h : wpQuiet P l.toArray C (fun a' => ∀ w', C w' → wpList P l.toArray Q (l.drop n) a' w') (l.take n) a) : (Code.region id l.toArray true).wp P Q a w := by
  simp only [lexTail2, Bool.and_eq_true, decide_eq_true_eq] at hB
  obtain ⟨⟨⟨⟨hsel, hn⟩, hs⟩, hc⟩, hlex⟩ := hB
  have hn' : n < l.length := by simpa using hn
  have htl : (l.take n).length = n := by simp; omega
  have hon : l.toArray[n]? = some l[n] := by simp [hn']
  have hdl : (l.drop (n + 1)).length = l.toArray.size - n - 1 := by simp; omega
  have inv0 : HeadInv .any l.toArray n (Array.replicate l.toArray.size false) :=
    ⟨by simp, fun j oj _ hl => (by rw [getD_replicate_false] at hl; cases hl), fun t _ ht => getD_in (by simpa using ht) (getD_replicate_false _ _)⟩
  have H := wpAnyLQ_lex (P := P) (C := C) (md := .any) (g := l.toArray.size - n - 1) hsel hs hc hn (l.take n) 0 _ a (fun j hj => by
    have hj' : j < n := by rw [htl] at hj; exact hj
    simp [hj']) (by simpa using htl) inv0 (by rw [htl]; exact hlex) h
  refine wp_region_any hm ?_
  have := wpAny_of_headQ (Q' := Q) (g := l.toArray.size - n) (fun listed a' w' hw' hL => by
    obtain ⟨h1, h2⟩ := hL
    simp only [oneB, Bool.and_eq_true, decide_eq_true_eq] at h1
    have h3 := h2 w' hw'
    rw [List.drop_eq_getElem_cons hn'] at h3
    rw [show l.toArray.size - n = (l.toArray.size - n - 1) + 1 by omega]
    refine ⟨fun h0 => (by rw [h1.1] at h0; cases h0), fun i hi => ?_⟩
    rw [h1.1] at hi
    have hin : i = n := by simpa using hi
    subst hin
    have hop : wpOp P l.toArray Q i (wpList P l.toArray Q (l.drop (i + 1))) a' w' := by unfold wpOp; simp only [hon]; exact h3
    refine wpOp_mono (fun a2 w2 h4 => ?_) hop
    have h5 := still_of_listG _ a2 w2 hp h4
    have h6 := wpAnyS_lex (md := .any) hsel (l.drop (i + 1)) (i + 1) (listed.setIfInBounds i true) a2 (fun j => by simp [List.getElem?_drop]) (by rw [hdl]; exact h1.2) h5
    rw [hdl] at h6
    exact wpAny_of_still (fun _ h => h) _ _ _ h6) _ _ _ _ hC H
  rw [htl, show n + (l.toArray.size - n) = l.toArray.size by omega] at this
  exact this

theorem wp_region_up_tailG {id : Nat} {Q : Exit → Act → World → Prop} {a : Act} {w : World} {l : List Oper} (n : Nat) (hm : P.follows .mixedOrders = true) (hB : lexTail2 .any l.toArray n = true) (hp : (l.drop (n + 1)).all pureG = true)
    (h : wpQuiet P l.toArray (fun w' => ∃ g : Up w, w' = g.world) (fun a' => ∀ w', (∃ g : Up w, w' = g.world) → wpList P l.toArray Q (l.drop n) a' w') (l.take n) a) : (Code.region id l.toArray true).wp P Q a w :=
  wp_region_quiet_tailG (C := fun w' => ∃ g : Up w, w' = g.world) n hm hB hp ⟨⟨_, (Below.refl _ _).drew⟩, rfl⟩ h
end
end Go.Proofs.Ytgkdggidgaifhaa
