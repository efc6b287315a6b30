/- Ints in a row of the law's own. -/
import Derived.Test.YtmipngefpedfpaaWaZ
namespace Go.Proofs.Ytmipngefpedfpaa
open Go.RowKit Go.Maps
set_option linter.unusedVariables false
set_option linter.unusedSimpArgs false

def iv (i : Int) : Value := .int .i64 i
/-- The ints L, in a row of the call's own (from block B on). -/
def OwI (B : Nat) (w : World) (v : Value) (L : List Int) : Prop := w.ownsRow B 3 1 v L.length (L.map iv)
section
variable {B : Nat} {w : World} {v : Value} {L : List Int}
theorem OwI.lt (h : OwI B w v L) : ∀ k, v.ownBlock = some k → B ≤ k ∧ k < w.heap.size := World.ownsRow.lt h
theorem OwI.off (h : OwI B w v L) {S : Nat → Prop} {w' : World} (ho : Off S w w') (hs : ∀ k, v.ownBlock = some k → ¬ S k) : OwI B w' v L := by
  refine ⟨h.1, ?_⟩
  rcases h.2 with hn | ⟨g, cap, cur, rfl, hb, hgg, rest⟩
  · exact .inl hn
  · refine .inr ⟨g, cap, cur, rfl, hb, ?_, rest⟩
    rw [ho.block g (Array.getElem?_eq_some_iff.1 hgg).1 (hs g rfl)]
    exact hgg
theorem OwI.up (h : OwI B w v L) {w' : World} (hb : Below w.heap.size w w') : OwI B w' v L := h.off (S := fun _ => False) (Off.of_below hb) (fun _ _ => id)
theorem OwI.mono (h : OwI B w v L) {B' : Nat} (hb : B' ≤ B) : OwI B' w v L := World.ownsRow.mono h hb
theorem OwI.empty (B : Nat) (w : World) : OwI B w (.slice none 0 0) [] := World.ownsRow_nil _ _ _ _
theorem OwI.form (h : OwI B w v L) : ∃ A c, v = .slice A L.length c ∧ L.length ≤ c ∧ c ≤ maxLen ∧ (A = none → L = []) ∧ (∀ g o, A = some ⟨g, o, none⟩ → o = 0 ∧ v.ownBlock = some g ∧ g < w.heap.size ∧ B ≤ g ∧ ∀ k, k < L.length → w.cell? ⟨g, 0 + k, none⟩ = some (iv (L.getD k 0))) ∧ (A ≠ none → ∃ g, A = some ⟨g, 0, none⟩) := by
  rcases h.2 with ⟨rfl, h0⟩ | ⟨g, cap, cur, rfl, hb, hg, h1, h2, h3, h4⟩
  · have : L = [] := by simpa using h0
    subst this
    exact ⟨none, 0, rfl, by simp, by simp, fun _ => rfl, (fun g o e => by cases e), fun e => absurd rfl e⟩
  · have hl := (Array.getElem?_eq_some_iff.1 hg).1
    refine ⟨some ⟨g, 0, none⟩, cap, rfl, h1, h2, (fun e => by cases e), fun g' o e => ?_, fun _ => ⟨g, rfl⟩⟩
    injection e with e
    injection e with e1 e2
    subst e1
    refine ⟨e2.symm, rfl, hl, hb, fun k hk => ?_⟩
    have := World.ownsRow.cells h (g := g) rfl k (iv (L[k])) (by simp [hk])
    rw [show (⟨g, 0, none⟩ : Addr).add k = ⟨g, 0 + k, none⟩ by unfold Addr.add; split <;> simp_all] at this
    rw [this]
    simp [List.getD_eq_getElem?_getD, hk]
end
theorem int_info : (Try.prog.info? 3).map (fun i => (i.zero, i.size, i.bytes)) = some (some (.int .i64 0), 1, 8) := by kernel_rfl
/-- append of one int. -/
theorem run_appI {B : Nat} {w : World} {v : Value} {L : List Int} {g : Nat} {i : Int} (hown : OwI B w v L) (hc : w.cell? ⟨g, 0, none⟩ = some (iv i)) (hB : B ≤ w.heap.size) (hlen : L.length ≤ 1048576) (ty : TypeId) :
    ∃ v' w', (Builtin.append_ #[38, 38] ty #[v, .slice (some ⟨g, 0, none⟩) 1 1]).run Try.prog w = .ok v' w' ∧ OwI B w' v' (L ++ [i]) ∧ w.grownBy w' v.ownBlock ∧ (v'.ownBlock = v.ownBlock ∨ v'.ownBlock = some w.heap.size) := by
  obtain ⟨i0, hi, hz0, hz1, hz2⟩ := info_parts int_info
  obtain ⟨v', w', hr, ho, hg, _, hat⟩ := run_append_own_at (P := Try.prog) w B 38 ty 3 i0 (.int .i64 0) 1 8 Try.underlying38 hi hz0 hz1 hz2 rfl (by omega) v L.length (L.map iv) hown ⟨g, 0, none⟩ 1 1 [iv i]
    rfl (fun j u hj => by
      have : j = 0 := by
        rcases Nat.eq_zero_or_pos j with h | h
        · exact h
        · rw [List.getElem?_eq_none (by simp; omega)] at hj; cases hj
      subst this
      simp at hj
      rw [show (⟨g, 0, none⟩ : Addr).add 0 = ⟨g, 0, none⟩ by simp [Addr.add], hc, hj]) (fun u hu => by
      simp only [List.mem_singleton] at hu
      subst hu
      simp [iv, Value.oneCell']) (by unfold maxLen; omega) (by omega) hB
  refine ⟨v', w', hr, ?_, hg, hat⟩
  unfold OwI
  rw [List.length_append, List.map_append]
  exact ho
theorem wpList_append_run {P : Program} {w w' : World} {ops : Array Oper} {rest : List Oper} {o : Oper} {a : Act} {Q : Exit → Act → World → Prop} (hgd : o.guard = none) (s x : Operand) (t : TypeId)
    (ho : o.op = .call { callee := .builtin .append, args := #[s, x], argTypes := #[t, t] }) (sv xv : Value) {v' : Value} (hs : a.eval s = sv) (hx : a.eval x = xv)
    (hrun : (Builtin.append_ #[t, t] o.type #[sv, xv]).run P w = .ok v' w') (h : wpList P ops Q rest (a.put o.dst v') w') : wpList P ops Q (o :: rest) a w := by
  refine wpList_plain hgd fun K hK => ?_
  unfold Oper.wp execOp
  simp only [ho, resolve, invoke, builtin, Sem.run_bind, Sem.run_pure, Result.andThen_ok, List.map_toArray, List.map_cons, List.map_nil, hs, hx, hrun]
  exact hK _ _ h
end Go.Proofs.Ytmipngefpedfpaa
