/- append of many elements; a page less in the law's words. -/
import Derived.Test.YtmipngefpedfpaaXjZ
namespace Go.Proofs.Ytmipngefpedfpaa
open Go.RowKit Go.Maps
set_option linter.unusedVariables false
set_option linter.unusedSimpArgs false

theorem run_app1 {t e : TypeId} {i : TypeInfo} {z : Value} {bytes : Nat} (ht : Try.prog.underlying t = some (.slice e)) (hi : Try.prog.info? e = some i) (hz : i.zero = some z) (hsize : i.size = 1) (hby : i.bytes = bytes) (hzs : z.cells.size = 1) (hb64 : bytes ≤ 64)
    {B : Nat} {w : World} {v : Value} {n0 : Nat} {vs : List Value} (hown : w.ownsRow B e 1 v n0 vs) {A : Option Addr} {m c : Nat} {news : List Value} (hl : news.length = m) (hsrc : 0 < m → ∃ g o, A = some ⟨g, o, none⟩ ∧ ∀ (j : Nat) u, news[j]? = some u → w.cell? ⟨g, o + j, none⟩ = some u) (h1 : ∀ u ∈ news, u.oneCell' = true) (hB : B ≤ w.heap.size) (hlen : n0 + m ≤ 1048576) (ty : TypeId) :
    ∃ v' w', (Builtin.append_ #[t, t] ty #[v, .slice A m c]).run Try.prog w = .ok v' w' ∧ w'.ownsRow B e 1 v' (n0 + m) (vs ++ news) ∧ w.grownBy w' v.ownBlock ∧ (v'.ownBlock = v.ownBlock ∨ v'.ownBlock = some w.heap.size) := by
  rcases Nat.eq_zero_or_pos m with h0 | hp
  · subst h0
    have : news = [] := by simpa using hl
    subst this
    refine ⟨v, w, ?_, by simpa using hown, ⟨rfl, rfl, rfl, Nat.le_refl _, fun _ _ _ => rfl⟩, .inl rfl⟩
    rcases hown.2 with ⟨rfl, h0⟩ | ⟨g, cap, cur, rfl, hb, hg, q1, q2, q3, q4⟩
    · cases A <;> simp [Builtin.append_, run_underlying ht, sizeOf, typeInfo, hi, Builtin.lenOf, Builtin.firstCells, loadCells, loadCellsFrom, hsize]
    · cases A <;> simp [Builtin.append_, run_underlying ht, sizeOf, typeInfo, hi, Builtin.lenOf, Builtin.firstCells, loadCells, loadCellsFrom, hsize, q1, storeCells]
  · obtain ⟨g, o, rfl, hc⟩ := hsrc hp
    obtain ⟨v', w', hr, ho, hg, _, hat⟩ := run_append_own_at (P := Try.prog) w B t ty e i z 1 bytes ht hi hz hsize hby hzs (by omega) v n0 vs hown ⟨g, o, none⟩ m c news (by omega) (fun j u hj => by
      rw [show (⟨g, o, none⟩ : Addr).add j = ⟨g, o + j, none⟩ by unfold Addr.add; split <;> simp_all]
      exact hc j u hj) h1 (by unfold maxLen; omega) (Nat.le_trans (Nat.mul_le_mul hlen hb64) (by decide)) hB
    exact ⟨v', w', hr, ho, hg, hat⟩
theorem step_app1 {ops : Array Oper} {o : Oper} {a : Act} {w : World} {K : Act → World → Prop} {Q : Exit → Act → World → Prop} {E : Prop} {t e : TypeId} {i : TypeInfo} {z : Value} {bytes : Nat} (ht : Try.prog.underlying t = some (.slice e)) (hi : Try.prog.info? e = some i) (hz : i.zero = some z) (hsize : i.size = 1) (hby : i.bytes = bytes) (hzs : z.cells.size = 1) (hb64 : bytes ≤ 64)
    (hgd : o.guard = none) (sl x : Operand) (ho : o.op = .call { callee := .builtin .append, args := #[sl, x], argTypes := #[t, t] }) (B : Nat) (v : Value) (n0 : Nat) (vs : List Value) (A : Option Addr) (m c : Nat) (news : List Value) (hs : a.eval sl = v) (hown : w.ownsRow B e 1 v n0 vs) (hx : a.eval x = .slice A m c)
    (hl : news.length = m) (hsrc : 0 < m → ∃ g o, A = some ⟨g, o, none⟩ ∧ ∀ (j : Nat) u, news[j]? = some u → w.cell? ⟨g, o + j, none⟩ = some u) (h1 : ∀ u ∈ news, u.oneCell' = true) (hB : B ≤ w.heap.size) (hlen : n0 + m ≤ 1048576)
    (h : ∀ v' w', w'.ownsRow B e 1 v' (n0 + m) (vs ++ news) → w.grownBy w' v.ownBlock → (v'.ownBlock = v.ownBlock ∨ v'.ownBlock = some w.heap.size) → K (a.put o.dst v') w') :
    if Region.wanted o (yielded ops a.tmps) = true then Oper.wp Try.prog o a w K Q else E := by
  have hw : Region.wanted o (yielded ops a.tmps) = true := by simp [Region.wanted, hgd]
  rw [if_pos hw]
  obtain ⟨v', w', hr, h1', h2, h3⟩ := run_app1 ht hi hz hsize hby hzs hb64 hown (c := c) hl hsrc h1 hB hlen o.type
  unfold Oper.wp execOp
  simp only [ho, resolve, invoke, builtin, Sem.run_bind, Sem.run_pure, Result.andThen_ok, List.map_toArray, List.map_cons, List.map_nil, hs, hx, hr]
  exact h v' w' h1' h2 h3
end Go.Proofs.Ytmipngefpedfpaa
