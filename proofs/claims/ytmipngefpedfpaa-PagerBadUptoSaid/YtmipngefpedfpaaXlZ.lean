/- step of the world of almanaclaw14: Drop, the lists. -/
import Derived.Test.YtmipngefpedfpaaXkZ
namespace Go.Proofs.Ytmipngefpedfpaa
open Go.RowKit Go.Maps
set_option linter.unusedVariables false
set_option linter.unusedSimpArgs false

/-- A list without its place q. -/
def outX {α : Type} (l : List α) (q : Nat) : List α := l.take q ++ l.drop (q + 1)
theorem outX_len {α : Type} {l : List α} {q : Nat} (h : q < l.length) : (outX l q).length = l.length - 1 := by unfold outX; rw [List.length_append, List.length_take, List.length_drop]; omega
theorem outX_map {α β : Type} (f : α → β) (l : List α) (q : Nat) : (outX l q).map f = outX (l.map f) q := by unfold outX; rw [List.map_append, List.map_take, List.map_drop]
theorem outX_mem {α : Type} {l : List α} {q : Nat} {z : α} (h : z ∈ outX l q) : ∃ i, i ≠ q ∧ l[i]? = some z := by
  unfold outX at h
  rcases List.mem_append.1 h with h | h
  · obtain ⟨i, hi⟩ := List.mem_iff_getElem?.1 h
    rw [List.getElem?_take] at hi
    split at hi
    · rename_i hlt; exact ⟨i, by omega, hi⟩
    · cases hi
  · obtain ⟨i, hi⟩ := List.mem_iff_getElem?.1 h
    rw [List.getElem?_drop] at hi
    exact ⟨q + 1 + i, by omega, hi⟩
theorem outX_pw {α : Type} {r : α → α → Prop} {l : List α} {q : Nat} (h : l.Pairwise r) : (outX l q).Pairwise r := by
  unfold outX
  rw [List.pairwise_append]
  refine ⟨h.sublist (List.take_sublist _ _), h.sublist (List.drop_sublist _ _), fun a ha b hb => ?_⟩
  have e := List.take_append_drop q l
  rw [← e] at h
  rw [List.pairwise_append] at h
  refine h.2.2 a ha b ?_
  have : l.drop (q + 1) = (l.drop q).drop 1 := by rw [List.drop_drop]
  rw [this] at hb
  exact List.mem_of_mem_drop hb
section
variable {w0 w w' w1 w2 w3 : World} {Wb S : Nat} {d : PD} {t t' t1 t2 : PSt ShS} {R : Prop} {k k1 : Nat} {vi vb : Value} {xs : List Pe} {is : List Int} {C : Cn} {x y : Pe} {q : Nat}
theorem CnX_out (hup : xs.Pairwise fun x y => x.id < y.id) (hq : xs[q]? = some x) : CnX (outX xs q) = updC (CnX xs) x.id none := by
  have hup' : (outX xs q).Pairwise fun x y => x.id < y.id := outX_pw hup
  have hql : q < xs.length := (List.getElem?_eq_some_iff.1 hq).1
  have hne : ∀ z i, i ≠ q → xs[i]? = some z → z.id ≠ x.id := fun z i hi hz => by
    have hil : i < xs.length := (List.getElem?_eq_some_iff.1 hz).1
    have e1 : xs[q] = x := (List.getElem?_eq_some_iff.1 hq).2
    have e2 : xs[i] = z := (List.getElem?_eq_some_iff.1 hz).2
    rcases Nat.lt_or_ge i q with h | h
    · have := List.pairwise_iff_getElem.1 hup i q hil hql h
      rw [e1, e2] at this
      omega
    · have := List.pairwise_iff_getElem.1 hup q i hql hil (by omega)
      rw [e1, e2] at this
      omega
  funext k
  unfold updC
  by_cases hk : k = x.id
  · rw [if_pos hk, hk]
    refine CnX_none fun z hz => ?_
    obtain ⟨i, hi, hz'⟩ := outX_mem hz
    exact hne z i hi hz'
  · rw [if_neg hk]
    by_cases h : ∃ z ∈ xs, z.id = k
    · obtain ⟨z, hz, rfl⟩ := h
      have hz' : z ∈ outX xs q := by
        obtain ⟨i, hi⟩ := List.mem_iff_getElem?.1 hz
        have hiq : i ≠ q := fun e => by subst e; rw [hq] at hi; cases hi; exact hk rfl
        unfold outX
        rw [List.mem_append]
        rcases Nat.lt_or_ge i q with h | h
        · exact .inl (List.mem_iff_getElem?.2 ⟨i, by rw [List.getElem?_take, if_pos h]; exact hi⟩)
        · exact .inr (List.mem_iff_getElem?.2 ⟨i - (q + 1), by rw [List.getElem?_drop, show q + 1 + (i - (q + 1)) = i by omega]; exact hi⟩)
      rw [CnX_at hup hz, CnX_at hup' hz']
    · rw [CnX_none (fun z hz e => h ⟨z, hz, e⟩), CnX_none (fun z hz e => ?_)]
      obtain ⟨i, _, hz'⟩ := outX_mem hz
      exact h ⟨z, List.mem_of_getElem? hz', e⟩
/-- Behind both lists' change. -/
theorem WA.out {vi' vb' : Value} (hup : xs.Pairwise fun x y => x.id < y.id) (hq : xs[q]? = some x) (hv : Vw S w0 w d t (updC (CnX xs) x.id none) R k) (hl : WL w0 w Wb S d t vi vb (xs.map Pe.id) xs) (hcm : t.cm = xs.length - 1)
    (hb1 : Below w.heap.size w w1) (hr1 : w1.ownsRow w.heap.size 3 1 vi' (outX xs q).length ((outX (xs.map Pe.id) q).map iv)) (hw2 : w2 = w1.setCell ⟨Wb, 4, none⟩ vi')
    (hb2 : Below w2.heap.size w2 w3) (hr3 : w3.ownsRow w2.heap.size 22 1 vb' (outX xs q).length ((outX xs q).map Pe.v)) :
    WA w0 (w3.setCell ⟨Wb, 5, none⟩ vb') Wb S d t R k vi' vb' (outX xs q) := by
  have hql : q < xs.length := (List.getElem?_eq_some_iff.1 hq).1
  have hlen := outX_len hql
  obtain ⟨hl2, ho2⟩ := hl.setI (w1 := w1) (vi' := vi') (is' := outX (xs.map Pe.id) q) (fun b hb => hv.lt hb) hv.bel.size (Off.of_below hb1) (by
    unfold OwI
    rw [outX_len (by rw [List.length_map]; exact hql), List.length_map, ← hlen]
    exact World.ownsRow.mono hr1 hv.bel.size) (fun g e => .inr (World.ownsRow.lt hr1 g e).1) (by rw [outX_len (by rw [List.length_map]; exact hql), List.length_map]; have := hl.few.1; omega)
  rw [← hw2] at hl2 ho2
  have hv2 := hv.offL ho2 (fun b hb => by
    rcases hb with e | e
    · exact (hl.out b (.inl e)).1
    · exact (hl.out b (.inr (.inl e))).1) (fun b hb => by
    rcases hb with e | e
    · exact (hl.out b (.inl e)).2
    · exact (hl.out b (.inr (.inl e))).2)
  obtain ⟨hl3, ho3⟩ := hl2.setB (w1 := w3) (vb' := vb') (xs' := outX xs q) (fun b hb => hv2.lt hb) hv2.bel.size (Off.of_below hb2) (World.ownsRow.mono hr3 hv2.bel.size) (fun g e => .inr (World.ownsRow.lt hr3 g e).1) (by have := hl.few.1; omega) (fun z hz => by
    obtain ⟨i, _, hi⟩ := outX_mem hz
    exact .inl (List.mem_of_getElem? hi)) (outX_pw hl.nxx)
  refine ⟨?_, by rw [outX_map]; exact hl3, outX_pw hup, by rw [hcm, hlen]⟩
  rw [CnX_out hup hq]
  exact hv2.offL ho3 (fun b hb => by
    rcases hb with e | e
    · exact (hl2.out b (.inl e)).1
    · exact (hl2.out b (.inr (.inr (.inl e)))).1) (fun b hb => by
    rcases hb with e | e
    · exact (hl2.out b (.inl e)).2
    · exact (hl2.out b (.inr (.inr (.inl e)))).2)
end
end Go.Proofs.Ytmipngefpedfpaa
