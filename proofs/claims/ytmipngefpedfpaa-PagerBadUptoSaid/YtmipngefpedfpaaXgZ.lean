/- step of the world of almanaclaw14: Write. -/
import Derived.Test.YtmipngefpedfpaaXfZ
namespace Go.Proofs.Ytmipngefpedfpaa
open Go.RowKit Go.Maps
set_option linter.unusedVariables false
set_option linter.unusedSimpArgs false

section
variable {w0 w w' w1 w2 : World} {Wb S : Nat} {d : PD} {t t' t1 t2 : PSt ShS} {R : Prop} {k k1 : Nat} {vi vb : Value} {xs : List Pe} {is : List Int} {C : Cn} {x y : Pe} {q : Nat}
theorem map_set {α : Type} (f : Pe → α) (hq : xs[q]? = some x) (hf : f y = f x) : (xs.set q y).map f = xs.map f := by
  apply List.ext_getElem?
  intro i
  rw [List.getElem?_map, List.getElem?_map, List.getElem?_set]
  by_cases h : q = i
  · subst h
    rw [if_pos rfl]
    have hl : q < xs.length := (List.getElem?_eq_some_iff.1 hq).1
    rw [if_pos hl, hq]
    simp [hf]
  · rw [if_neg h]
theorem mem_set (hq : xs[q]? = some x) {z : Pe} (hz : z ∈ xs.set q y) : z = y ∨ ∃ i, i ≠ q ∧ xs[i]? = some z := by
  obtain ⟨i, hi⟩ := List.mem_iff_getElem?.1 hz
  rw [List.getElem?_set] at hi
  by_cases h : q = i
  · subst h
    rw [if_pos rfl] at hi
    split at hi
    · exact .inl (Option.some.inj hi).symm
    · cases hi
  · rw [if_neg h] at hi
    exact .inr ⟨i, fun e => h e.symm, hi⟩
theorem pw_map {α : Type} (f : Pe → α) (r : α → α → Prop) : xs.Pairwise (fun x y => r (f x) (f y)) ↔ (xs.map f).Pairwise r := by rw [List.pairwise_map]
theorem CnX_set (hup : xs.Pairwise fun x y => x.id < y.id) (hq : xs[q]? = some x) (hid : y.id = x.id) : CnX (xs.set q y) = updC (CnX xs) x.id (some (some y.b)) := by
  have hxs : x ∈ xs := List.mem_of_getElem? hq
  have hup' : (xs.set q y).Pairwise fun x y => x.id < y.id := by
    rw [pw_map Pe.id (· < ·), map_set Pe.id hq hid]
    exact (pw_map Pe.id (· < ·)).1 hup
  have hql : q < xs.length := (List.getElem?_eq_some_iff.1 hq).1
  have hy : y ∈ xs.set q y := List.mem_iff_getElem?.2 ⟨q, by rw [List.getElem?_set, if_pos rfl, if_pos hql]⟩
  funext k
  unfold updC
  by_cases hk : k = x.id
  · rw [if_pos hk, hk, ← hid]
    exact CnX_at hup' hy
  · rw [if_neg hk]
    by_cases h : ∃ z ∈ xs, z.id = k
    · obtain ⟨z, hz, rfl⟩ := h
      have hz' : z ∈ xs.set q y := by
        obtain ⟨i, hi⟩ := List.mem_iff_getElem?.1 hz
        refine List.mem_iff_getElem?.2 ⟨i, ?_⟩
        rw [List.getElem?_set, if_neg (fun e => by subst e; rw [hq] at hi; cases hi; exact hk rfl)]
        exact hi
      rw [CnX_at hup hz, CnX_at hup' hz']
    · rw [CnX_none (fun z hz e => h ⟨z, hz, e⟩), CnX_none (fun z hz e => ?_)]
      rcases mem_set hq hz with rfl | ⟨i, _, hi⟩
      · exact hk (by rw [← e, hid])
      · exact h ⟨z, List.mem_of_getElem? hi, e⟩
/-- A page's bytes have changed, and the law's. -/
theorem WA.write (hup : xs.Pairwise fun x y => x.id < y.id) (hq : xs[q]? = some x) {b' : Bytes} (hv : Vw S w0 w d t (updC (CnX xs) x.id (some (some b'))) R k) (hwl : WL w0 w Wb S d t vi vb (xs.map Pe.id) xs) (hcm : t.cm = xs.length) (hby : ByAt w' d.z x.B x.c b') (ho : Off (· = x.B) w w') :
    WA w0 w' Wb S d t R k vi vb (xs.set q { x with b := b' }) := by
  have hxs : x ∈ xs := List.mem_of_getElem? hq
  have hl : b'.length = x.b.length := by rw [hby.len, (hwl.by_ x hxs).len]
  have hv' : Pe.v { x with b := b' } = Pe.v x := by unfold Pe.v; simp [hl]
  have hml := map_set Pe.v (y := { x with b := b' }) hq hv'
  have hmi := map_set Pe.id (y := { x with b := b' }) hq rfl
  have hmB := map_set Pe.B (y := { x with b := b' }) hq rfl
  have hout := hwl.out x.B (.inr (.inr (.inr ⟨x, hxs, rfl⟩)))
  have hlen : (xs.set q { x with b := b' }).length = xs.length := List.length_set ..
  have hlW := hwl.ltW
  have hWB : ¬ Wb = x.B := fun e => (hwl.nxW x hxs).1 e.symm
  have hLB : ∀ c, LB Wb vi vb (xs.set q { x with b := b' }) c → LB Wb vi vb xs c := fun c hc => by
    rcases hc with e | e | e | ⟨z, hz, e⟩
    · exact .inl e
    · exact .inr (.inl e)
    · exact .inr (.inr (.inl e))
    · refine .inr (.inr (.inr ?_))
      rcases mem_set hq hz with rfl | ⟨i, _, hi⟩
      · exact ⟨x, hxs, e⟩
      · exact ⟨z, List.mem_of_getElem? hi, e⟩
  refine ⟨?_, ⟨(ho.cell (p := ⟨Wb, 0, none⟩) hlW hWB).trans hwl.c0, (ho.cell (p := ⟨Wb, 1, none⟩) hlW hWB).trans hwl.c1, (ho.cell (p := ⟨Wb, 2, none⟩) hlW hWB).trans hwl.c2, (ho.cell (p := ⟨Wb, 3, none⟩) hlW hWB).trans hwl.c3, (ho.cell (p := ⟨Wb, 4, none⟩) hlW hWB).trans hwl.c4, (ho.cell (p := ⟨Wb, 5, none⟩) hlW hWB).trans hwl.c5,
    fun k => (ho.frozen (p := ⟨Wb, k, none⟩) hlW hWB).trans (hwl.fz k), by rw [hmi]; exact hwl.ri.off ho (fun g e e2 => (hwl.nxW x hxs).2.1 (by rw [e, e2])), by rw [hml, hlen]; exact rowN_off hwl.rb ho (fun g e e2 => (hwl.nxW x hxs).2.2 (by rw [e, e2])), fun z hz => ?_, fun c hc => hwl.out c (hLB c hc), hwl.niW, hwl.nbW, hwl.nib, fun z hz => ?_, ?_, hwl.z16, by rw [hmi, hlen]; exact hwl.few⟩, ?_, by rw [hlen]; exact hcm⟩
  · rw [CnX_set (y := { x with b := b' }) hup hq rfl]
    exact hv.offL ho (fun c e => by rw [e]; exact hout.1) (fun c e => by rw [e]; exact hout.2)
  · rcases mem_set hq hz with rfl | ⟨i, hi, hiz⟩
    · exact hby
    · refine (hwl.by_ z (List.mem_of_getElem? hiz)).off hwl.z16.1 ho (fun e => ?_)
      have hp := (pw_map Pe.B (· ≠ ·)).1 hwl.nxx
      have hql : q < xs.length := (List.getElem?_eq_some_iff.1 hq).1
      have hil : i < xs.length := (List.getElem?_eq_some_iff.1 hiz).1
      have e1 : (xs.map Pe.B)[q]'(by simpa using hql) = x.B := by simp [(List.getElem?_eq_some_iff.1 hq).2]
      have e2 : (xs.map Pe.B)[i]'(by simpa using hil) = z.B := by simp [(List.getElem?_eq_some_iff.1 hiz).2]
      rcases Nat.lt_or_ge q i with hlt | hge
      · have := List.pairwise_iff_getElem.1 hp q i (by simpa using hql) (by simpa using hil) hlt
        rw [e1, e2] at this
        exact this e.symm
      · have := List.pairwise_iff_getElem.1 hp i q (by simpa using hil) (by simpa using hql) (by omega)
        rw [e1, e2] at this
        exact this e
  · rcases mem_set hq hz with rfl | ⟨i, hi, hiz⟩
    · exact hwl.nxW x hxs
    · exact hwl.nxW z (List.mem_of_getElem? hiz)
  · rw [pw_map Pe.B (· ≠ ·), hmB]
    exact (pw_map Pe.B (· ≠ ·)).1 hwl.nxx
  · rw [pw_map Pe.id (· < ·), hmi]
    exact (pw_map Pe.id (· < ·)).1 hup
end
end Go.Proofs.Ytmipngefpedfpaa
