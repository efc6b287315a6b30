/- A range over a map that deletes what it was told already. -/
import Derived.Test.YtlhfjaagkgengaaGreatItZ
namespace Go.Proofs.YtlhfjaagkgengaaGreat
open Go.RowKit Go.Maps Go.MapKept
open Go.ChangeMaps (setBlock modify_eq_set)
set_option linter.unusedVariables false
set_option linter.unusedSimpArgs false
theorem filter_erase {α : Type} (p : α → Bool) : ∀ (l : List α) (j : Nat) (x : α), l[j]? = some x → p x = false → (l.eraseIdx j).filter p = l.filter p
  | [], j, x, h, _ => by simp at h
  | y :: l, 0, x, h, hp => by
    simp at h
    subst h
    simp [hp]
  | y :: l, j + 1, x, h, hp => by
    rw [List.getElem?_cons_succ] at h
    rw [List.eraseIdx_cons_succ, List.filter_cons, List.filter_cons, filter_erase p l j x h hp]
section
variable {P : Program} {k t e : TypeId} {w w' : World} {b r c : Nat} {f : Value → Option Value} {left : Value → Prop} {cnt : Nat}
theorem ItIs.del (h : ItIs P k w b r f left cnt) (hm : MapIs P k w b f c) (K : Keyed P k) (ht : P.underlying t = some (.map k e)) {key : Value} {kl : Lit} (hkey : keyOf P k key = some kl) (hl : ¬ left key) (hbr : b ≠ r) (ty : TypeId) :
    ∃ w', (Builtin.delete_ #[t, k] ty #[.map (some b), key]).run P w = .ok (.tuple #[]) w' ∧ MapIs P k w' b (delK f key) (if (f key).isSome then c - 1 else c) ∧ ItIs P k w' b r (delK f key) left cnt ∧ Off (· = b) w w' := by
  obtain ⟨w1, hr1, hm1, ho1⟩ := hm.del K ht hkey ty
  refine ⟨w1, hr1, hm1, ?_, ho1⟩
  obtain ⟨es, clock, seen, hb, hr, hst, hk, h1, h2, h3, hc⟩ := h
  have hr' : w1.heap[r]? = some (.mapIter (some b) clock seen clock) := (ho1.block r (Array.getElem?_eq_some_iff.1 hr).1 (fun e => hbr e.symm)).trans hr
  have hlt := (Array.getElem?_eq_some_iff.1 hb).1
  rcases K.find w hkey es.toList hk with ⟨g1, g2⟩ | ⟨j, e0, g1, g2, g3⟩
  · have hrun : (Builtin.delete_ #[t, k] ty #[.map (some b), key]).run P w = .ok (.tuple #[]) (setBlock w b (.map es clock)) := by
      simp [Builtin.delete_, run_underlying ht, MapKept.run_getObj_map hb, K.check w _ hkey, g1, MapKept.run_setObj_map _ hb, Result.andThen, setBlock]
    rw [hr1] at hrun
    injection hrun with _ hw
    subst hw
    refine ⟨es, clock, seen, by simp [setBlock, hlt], hr', hst, hk, fun x hx => by simp [delK, g2 x hx, h1 x hx], fun key' v hv => ?_, h3, hc⟩
    unfold delK at hv
    split at hv
    · cases hv
    · exact h2 key' v hv
  · have hrun : (Builtin.delete_ #[t, k] ty #[.map (some b), key]).run P w = .ok (.tuple #[]) (setBlock w b (.map (es.eraseIdxIfInBounds j) clock)) := by
      simp [Builtin.delete_, run_underlying ht, MapKept.run_getObj_map hb, K.check w _ hkey, g1, MapKept.run_setObj_map _ hb, Result.andThen, setBlock]
    rw [hr1] at hrun
    injection hrun with _ hw
    subst hw
    have hjl : j < es.toList.length := (List.getElem?_eq_some_iff.1 g2).1
    have hjs : j < es.size := by simpa using hjl
    have hsub : (es.eraseIdxIfInBounds j).toList = es.toList.eraseIdx j := by
      unfold Array.eraseIdxIfInBounds
      rw [dif_pos hjs]
      simp
    have hnd := hst.2.2
    have who : ∀ x ∈ es.toList.eraseIdx j, x ∈ es.toList ∧ x.key ≠ key := by
      intro x hx
      obtain ⟨i, hi, he⟩ := List.mem_eraseIdx_iff_getElem?.1 hx
      refine ⟨List.mem_of_getElem? he, fun hxk => hi ?_⟩
      have e1 : (es.toList.map (·.key))[j]? = some key := by rw [List.getElem?_map, g2]; simp [g3]
      have e2 : (es.toList.map (·.key))[i]? = some key := by rw [List.getElem?_map, he]; simp [hxk]
      exact ((List.getElem?_inj (by simpa using hjl) hnd).1 (e1.trans e2.symm)).symm
    have hseen : seen.contains e0.born = true := by
      have := h3 e0 (List.mem_of_getElem? g2)
      rw [g3] at this
      cases hs : seen.contains e0.born with
      | true => rfl
      | false => exact absurd (this.2 hs) hl
    refine ⟨es.eraseIdxIfInBounds j, clock, seen, by simp [setBlock, hlt], hr', stamped_erase hst j, fun x hx => ?_, fun x hx => ?_, fun key' v hv => ?_, fun x hx => ?_, ?_⟩
    · rw [hsub] at hx
      exact hk x (who x hx).1
    · rw [hsub] at hx
      simp [delK, (who x hx).2, h1 x (who x hx).1]
    · unfold delK at hv
      split at hv
      · cases hv
      · rename_i hne
        obtain ⟨x, hx, hxk⟩ := h2 key' v hv
        rw [hsub]
        obtain ⟨i, hi⟩ := List.mem_iff_getElem?.1 hx
        refine ⟨x, List.mem_eraseIdx_iff_getElem?.2 ⟨i, ?_, hi⟩, hxk⟩
        intro hij
        subst hij
        rw [g2] at hi
        cases hi
        exact hne (hxk.symm.trans g3)
    · rw [hsub] at hx
      exact h3 x (who x hx).1
    · rw [hc]
      have e4 : ∀ (s : Array MapEntry), (leftOf s seen).size = (s.toList.filter (fun x => !seen.contains x.born)).length := fun s => by unfold leftOf; rw [← Array.length_toList, Array.toList_filter]
      rw [e4, e4, hsub, filter_erase _ _ j e0 g2 (by rw [hseen]; rfl)]
end
theorem MapIs.clrM {P : Program} {k t e : TypeId} {w : World} {b c : Nat} {f : Value → Option Value} (h : MapIs P k w b f c) (ht : P.underlying t = some (.map k e)) (ty : TypeId) :
    ∃ w', (Builtin.clear_ #[t] ty #[.map (some b)]).run P w = .ok (.tuple #[]) w' ∧ MapIs P k w' b (fun _ => none) 0 ∧ Off (· = b) w w' := by
  have hlt := h.lt
  obtain ⟨es, clock, hb, hst, hc, hk, h1, h2⟩ := h
  refine ⟨setBlock w b (.map #[] clock), ?_, ⟨#[], clock, by simp [setBlock, hlt], stamped_empty clock, rfl, by simp, by simp, by simp⟩, off_setBlock _ _ _ _ rfl⟩
  simp [Builtin.clear_, run_underlying ht, MapKept.run_getObj_map hb, MapKept.run_setObj_map _ hb, Result.andThen, setBlock]
/-- clear as a statement. -/
theorem wpList_clear0 {P : Program} {w w' : World} {ops : Array Oper} {rest : List Oper} {o : Oper} {a : Act} {Q : Exit → Act → World → Prop} (hgd : o.guard = none) (hd : o.dst = none) (m : Operand) (t : TypeId)
    (ho : o.op = .call { callee := .builtin .clear, args := #[m], argTypes := #[t] }) (mv : Value) (hm : a.eval m = mv)
    (hrun : (Builtin.clear_ #[t] o.type #[mv]).run P w = .ok (.tuple #[]) w') (h : wpList P ops Q rest a w') : wpList P ops Q (o :: rest) a w := by
  refine wpList_plain hgd fun K hK => ?_
  unfold Oper.wp execOp
  simp only [ho, resolve, invoke, builtin, Sem.run_bind, Sem.run_pure, Result.andThen_ok, List.map_toArray, List.map_cons, List.map_nil, hm, hrun]
  refine hK _ _ ?_
  rw [hd]
  exact h
/-- delete as a statement. -/
theorem wpList_delete0 {P : Program} {w w' : World} {ops : Array Oper} {rest : List Oper} {o : Oper} {a : Act} {Q : Exit → Act → World → Prop} (hgd : o.guard = none) (hd : o.dst = none) (m x : Operand) (t k : TypeId)
    (ho : o.op = .call { callee := .builtin .delete, args := #[m, x], argTypes := #[t, k] }) (mv key : Value) (hm : a.eval m = mv) (hx : a.eval x = key)
    (hrun : (Builtin.delete_ #[t, k] o.type #[mv, key]).run P w = .ok (.tuple #[]) w') (h : wpList P ops Q rest a w') : wpList P ops Q (o :: rest) a w :=
  wpList_delete_run hgd m x t k ho mv key hm hx hrun (by rw [hd]; exact h)
end Go.Proofs.YtlhfjaagkgengaaGreat
