/- radix's laws: a tree, its root's box, a map beside. radix's laws: pairs with keys that differ, in a row of the call's own; another order of them. -/
import Derived.Test.YtgkdggidgaifhaaQgZ
import Derived.Test.YtgkdggidgaifhaaMC
namespace Go.Proofs.Ytgkdggidgaifhaa
open Go.RowKit Go.Maps
set_option linter.unusedVariables false
set_option linter.unusedSimpArgs false

/-- A tree, a root in its box, a map of what it tells. -/
structure MtAt (W V : World) (S T g Mb : Nat) (O : Nat → Prop) (st : ShS × Int) (r : Int × Int) (m : Mp) (ps : Ps) : Prop where
  rt : RtAt W V S T g O st r
  mp : GMap V Mb m ps.length
  lst : Lst m ps
  oM : Out O T Mb
  geM : W.heap.size ≤ Mb
  neM : Mb ≠ g
section
variable {W w w' V : World} {S T g g' Mb : Nat} {O O' : Nat → Prop} {st st' : ShS × Int} {r r' : Int × Int} {n N : Nat} {G : Rdr → Int × Int → Prop} {e : Ending} {m : Mp} {ps : Ps}
theorem MtAt.up (h : MtAt W w S T g Mb O st r m ps) (hb : Below w.heap.size w w') : MtAt W w' S T g Mb O st r m ps := ⟨h.rt.up hb, h.mp.off (S := fun _ => False) (Off.of_below hb) id, h.lst, h.oM, h.geM, h.neM⟩
theorem RtAt.offW {P : Nat → Prop} (h : RtAt W w S T g O st r) (ho : Off P w w') (hP : ∀ k, P k → Out O T k ∧ W.heap.size ≤ k ∧ k ≠ g) : RtAt W w' S T g O st r :=
  ⟨h.l.offW ho (fun k e => ⟨(hP k e).1, (hP k e).2.1⟩), h.box.off ho (fun e => (hP g e).2.2 rfl), h.out, h.ge⟩
theorem SetOk.mt (h : MtAt W w S T g Mb O st r m ps) {w1 : World} (hb : Below w.heap.size w w1) (k : SetOk W w1 w' S T O O' st st' n N G r' e) : MtAt W w' S T g Mb O' st' r m ps :=
  ⟨k.rt h.rt hb, (h.up hb).mp.off k.off (fun e => e.elim h.oM.1 h.oM.2), h.lst, out_next h.oM k.hO (Nat.lt_of_lt_of_le (MapIs.lt h.mp) hb.size), h.geM, h.neM⟩
theorem MtAt.boxA (h : MtAt W w' S T g Mb O' st' r m ps) (r' : Int × Int) (t : TypeId) : MtAt W (w'.alloc (.cells #[.int .i64 r'.1, .int .i64 r'.2] t)) S T g Mb O' st' r m ps ∧ RtAt W (w'.alloc (.cells #[.int .i64 r'.1, .int .i64 r'.2] t)) S T w'.heap.size O' st' r' ∧ g ≠ w'.heap.size ∧ Mb ≠ w'.heap.size :=
  ⟨h.up ((Below.refl _ _).alloc (Nat.le_refl _) _), (h.rt.boxA r' t).2, by have := h.rt.box.lt; omega, by have := MapIs.lt h.mp; omega⟩
theorem MtAt.boxB (h : MtAt W w' S T g Mb O' st' r m ps) {r0 : Int × Int} (h2 : BoxA w' g' r0) (o2 : Out O' T g') (hg : W.heap.size ≤ g') (hne : g' ≠ g) (hneM : g' ≠ Mb) (r' : Int × Int) :
    MtAt W ((w'.setCell ⟨g', 0, none⟩ (.int .i64 r'.1)).setCell ⟨g', 1, none⟩ (.int .i64 r'.2)) S T g Mb O' st' r m ps ∧ RtAt W ((w'.setCell ⟨g', 0, none⟩ (.int .i64 r'.1)).setCell ⟨g', 1, none⟩ (.int .i64 r'.2)) S T g' O' st' r' ∧ g ≠ g' ∧ Mb ≠ g' :=
  ⟨⟨(h.rt.boxB h2 o2 hg hne r').1, h.mp.off (h2.set r').2 (fun e => hneM e.symm), h.lst, h.oM, h.geM, h.neM⟩, (h.rt.boxB h2 o2 hg hne r').2, hne.symm, hneM.symm⟩
/-- The root's box takes another root. -/
theorem MtAt.root (h : MtAt W w S T g Mb O st r m ps) (r' : Int × Int) : MtAt W ((w.setCell ⟨g, 0, none⟩ (.int .i64 r'.1)).setCell ⟨g, 1, none⟩ (.int .i64 r'.2)) S T g Mb O st r' m ps := by
  obtain ⟨e1, e2⟩ := h.rt.box.set r'
  exact ⟨⟨h.rt.l.offW e2 (fun k e => by cases e; exact ⟨h.rt.out, h.rt.ge⟩), e1, h.rt.out, h.rt.ge⟩, h.mp.off e2 h.neM, h.lst, h.oM, h.geM, h.neM⟩
/-- The map takes a pair. -/
theorem MtAt.put (h : MtAt W w S T g Mb O st r m ps) {key : Nat} (hk : key < 16777216) (L : Bytes) :
    ∃ w', (Instr.mapUpdate 31 (.map (some Mb)) (.int .i64 (key : Nat)) (.string (strB L))).run Try.prog w = .ok () w' ∧ MtAt W w' S T g Mb O st r (upd m key (some L)) (insP key L ps) ∧ Off (· = Mb) w w' := by
  obtain ⟨w', h1, h2, h3⟩ := h.mp.put hk L
  refine ⟨w', h1, ⟨h.rt.offW h3 (fun k e => by rw [e]; exact ⟨h.oM, h.geM, h.neM⟩), ?_, h.lst.set key L, h.oM, h.geM, h.neM⟩, h3⟩
  rw [h.lst.set_len key L]
  exact h2
/-- Same has been asked. -/
theorem SmOk.mt (h : MtAt W w S T g Mb O st r m ps) {s' : ShS} (k : SmOk W w S T O st Mb m ps.length w' s') : MtAt W w' S T g Mb O (s', st.2) r m ps :=
  ⟨⟨k.l, h.rt.box.off k.off (fun e => e.elim h.rt.out.1 (fun e => h.neM e.symm)), h.rt.out, h.rt.ge⟩, k.mp, h.lst, h.oM, h.geM, h.neM⟩
theorem SmOk.rt {g2 : Nat} {r2 : Int × Int} (h : RtAt W w S T g2 O st r2) (hne : Mb ≠ g2) {s' : ShS} {c : Nat} (k : SmOk W w S T O st Mb m c w' s') : RtAt W w' S T g2 O (s', st.2) r2 :=
  ⟨k.l, h.box.off k.off (fun e => e.elim h.out.1 (fun e => hne e.symm)), h.out, h.ge⟩
theorem MtAt.same (h : MtAt W w S T g Mb O st r m ps) (hr : shK.Rdy st.1 0) {r2 : Int × Int} (hm : TellsR (shRd st.1.L) r2 m) (hl : ps.length ≤ 149796) :
    Calls Try.prog 17 #[.pointer (some ⟨T, 0, none⟩), .agg #[.int .i64 r2.1, .int .i64 r2.2], .map (some Mb)] w (SmPost W w S T O st Mb m ps.length) :=
  same_any h.rt.l hr hm h.lst hl h.mp h.oM h.geM
/-- The shelf is told how many more it may take. -/
theorem ShL.setFull (h : ShL W w S T O st) (x : Int) (hx : x < 9223372036854775808) : ShL W (w.setCell ⟨S, 3, none⟩ (.int .i64 x)) S T O ({ st.1 with full := x }, st.2) ∧ Off (· = S) w (w.setCell ⟨S, 3, none⟩ (.int .i64 x)) ∧ O S := by
  have ho : Off (· = S) w (w.setCell ⟨S, 3, none⟩ (.int .i64 x)) := (Off.refl (· = S) w).setCell (p := ⟨S, 3, none⟩) rfl _
  obtain ⟨rv, vs, ov, hi, h2, h3, h4, h5, h6⟩ := (show ShAt S w O st.1 from h.tr.at_)
  have hST : ¬ T = S := fun e => h.tr.ne (by rw [e]; exact h2)
  have hlt := h.tr.lt
  refine ⟨⟨⟨⟨rv, vs, ov, hi.setFull x hx, h2, h3, h4, h5, fun k hk => by have := h6 k hk; simpa using this⟩, h.tr.ne, (ho.cell (p := ⟨T, 0, none⟩) hlt hST).trans h.tr.sk, (ho.cell (p := ⟨T, 1, none⟩) hlt hST).trans h.tr.pu, (ho.frozen (p := ⟨T, 1, none⟩) hlt hST).trans h.tr.fr⟩, h.hO, h.hT, h.inn, h.bel.trans (ho.below (fun k e => by rw [e]; exact h.hO S h2) h.bel.size)⟩, ho, h2⟩
theorem ShL.shelf (h : ShL W w S T O st) : w.cell? ⟨S, 3, none⟩ = some (.int .i64 st.1.full) ∧ w.frozen? ⟨S, 3, none⟩ = false := by
  obtain ⟨rv, vs, ov, hi, _⟩ := (show ShAt S w O st.1 from h.tr.at_)
  exact ⟨hi.c3, hi.fr 3⟩
theorem MtAt.setFull (h : MtAt W w S T g Mb O st r m ps) (x : Int) (hx : x < 9223372036854775808) : MtAt W (w.setCell ⟨S, 3, none⟩ (.int .i64 x)) S T g Mb O ({ st.1 with full := x }, st.2) r m ps := by
  obtain ⟨h1, ho, hS⟩ := h.rt.l.setFull x hx
  exact ⟨⟨h1, h.rt.box.off ho (fun e => h.rt.out.1 (by rw [e]; exact hS)), h.rt.out, h.rt.ge⟩, h.mp.off ho (fun e => h.oM.1 (by rw [e]; exact hS)), h.lst, h.oM, h.geM, h.neM⟩
theorem RtAt.setFull (h : RtAt W w S T g O st r) (x : Int) (hx : x < 9223372036854775808) : RtAt W (w.setCell ⟨S, 3, none⟩ (.int .i64 x)) S T g O ({ st.1 with full := x }, st.2) r := by
  obtain ⟨h1, ho, hS⟩ := h.l.setFull x hx
  exact ⟨h1, h.box.off ho (fun e => h.out.1 (by rw [e]; exact hS)), h.out, h.ge⟩
theorem rdy_full {s : ShS} {k : Nat} (h : shK.Rdy s k) {x : Int} (hx : x < 9223372036854775808) : shK.Rdy { s with full := x } k := ⟨h.1, h.2.1, h.2.2.1, hx⟩
/-- A Set over a sink that may be full has answered. -/
theorem rt_mt {G : Rdr → Int × Int → Prop} {er : Int} (h : MtAt W w S T g Mb O st r m ps) (hf : 0 ≤ st.1.full) (k : RtPost shP (shM S) w T O st 6 G (fun s' => shK.Rdy s' n) e w' O' st' r' er) :
    e = .returned (.tuple #[.agg #[.int .i64 r'.1, .int .i64 r'.2], .int .i64 er]) ∧ MtAt W w' S T g Mb O' st' r m ps ∧ shK.Rdy st'.1 n ∧ SubR (shRd st.1.L) (shRd st'.1.L) ∧ ((er = 0 ∧ G (shRd st'.1.L) r') ∨ (er = 7 ∧ st.1.full < 6)) := by
  have key : ∃ j, Aft shP j st st' := by
    rcases k.r with ⟨_, j, _, ha, _⟩ | ⟨_, j, _, ha, _⟩
    · exact ⟨j, ha⟩
    · exact ⟨j, ha⟩
  obtain ⟨j, ha⟩ := key
  have hO2 : ∀ k', O' k' → W.heap.size ≤ k' := fun k' hk => (k.hO k' hk).elim (h.rt.l.hO k') (fun e => Nat.le_trans h.rt.l.bel.size e)
  have hl : ShL W w' S T O' st' := ⟨k.tr, hO2, h.rt.l.hT, ha.inn, h.rt.l.bel.trans (k.off.below (fun b hb => hb.elim (h.rt.l.hO b) (fun e => e ▸ h.rt.l.hT)) h.rt.l.bel.size)⟩
  refine ⟨k.e, ⟨⟨hl, h.rt.box.off k.off (fun e => e.elim h.rt.out.1 h.rt.out.2), out_next h.rt.out k.hO h.rt.box.lt, h.rt.ge⟩, h.mp.off k.off (fun e => e.elim h.oM.1 h.oM.2), h.lst, out_next h.oM k.hO (MapIs.lt h.mp), h.geM, h.neM⟩, k.z, ha.sub, ?_⟩
  rcases k.r with ⟨h0, j, hj, ha, hg⟩ | ⟨h0, j, hj, ha, hz⟩
  · exact .inl ⟨h0, hg⟩
  · refine .inr ⟨h0, ?_⟩
    have h1 := ha.room
    rw [if_neg (show ¬ shP.room st.1 < 0 by show ¬ st.1.full < 0; omega)] at h1
    have h2 : st.1.full - (j : Int) = 0 := h1.symm.trans hz
    omega
end
end Go.Proofs.Ytgkdggidgaifhaa
namespace Go.Proofs.Ytgkdggidgaifhaa
open Go.RowKit Go.Maps
set_option linter.unusedVariables false
set_option linter.unusedSimpArgs false

/-- An append whose run is told. -/
theorem wpList_append_run {P : Program} {ops : Array Oper} {rest : List Oper} {o : Oper} {a : Act} {w w' : World} {Q : Exit → Act → World → Prop} (hgd : o.guard = none) (s x : Operand) (t : TypeId) (ho : o.op = .call { callee := .builtin .append, args := #[s, x], argTypes := #[t, t] })
    (v xv : Value) (hs : a.eval s = v) (hx : a.eval x = xv) {v' : Value} (hr : (Builtin.append_ #[t, t] o.type #[v, xv]).run P w = .ok v' w') (h : wpList P ops Q rest (a.put o.dst v') w') : wpList P ops Q (o :: rest) a w := by
  refine wpList_plain hgd fun K hK => ?_
  unfold Oper.wp execOp
  simp only [ho, resolve, invoke, builtin, Sem.run_bind, Sem.run_pure, Result.andThen_ok, List.map_toArray, List.map_cons, List.map_nil, hs, hx, hr]
  exact hK _ _ h
def pz : PArg := ⟨0, none, 0, 0, []⟩
def pcs (l : List PArg) : List Value := l.flatMap fun p => [.int .i64 p.key, p.v]
theorem pcs_length (l : List PArg) : (pcs l).length = l.length * 2 := by
  induction l with
  | nil => rfl
  | cons p l ih => simp only [pcs, List.flatMap_cons, List.length_append, List.length_cons, List.length_nil] at ih ⊢; omega
theorem pcs_at : ∀ (l : List PArg) (i : Nat) (p : PArg), l[i]? = some p → (pcs l)[i * 2]? = some (.int .i64 p.key) ∧ (pcs l)[i * 2 + 1]? = some p.v
  | [], i, p, h => by simp at h
  | q :: l, i, p, h => by
    cases i with
    | zero => simp at h; subst h; simp [pcs]
    | succ i =>
      rw [List.getElem?_cons_succ] at h
      have := pcs_at l i p h
      simp only [pcs, List.flatMap_cons] at this ⊢
      rw [show (i + 1) * 2 = i * 2 + 2 by omega, show i * 2 + 2 + 1 = i * 2 + 1 + 2 by omega]
      simpa using this
theorem pair_info : (Try.prog.info? 59).map (fun i => (i.zero, i.size, i.bytes)) = some (some (.agg #[.int .i64 0, .slice none 0 0]), 2, 32) := by kernel_rfl
/-- append of one pair. -/
theorem run_appP {B : Nat} {w : World} {v : Value} {l : List PArg} {g : Nat} {p : PArg} (hown : w.ownsRow B 59 2 v l.length (pcs l)) (hc : w.cell? ⟨g, 0, none⟩ = some (.int .i64 p.key)) (hc1 : w.cell? ⟨g, 1, none⟩ = some (.slice p.A p.n p.c)) (hB : B ≤ w.heap.size) (hlen : l.length ≤ 1048576) (ty : TypeId) :
    ∃ v' w', (Builtin.append_ #[22, 22] ty #[v, .slice (some ⟨g, 0, none⟩) 1 1]).run Try.prog w = .ok v' w' ∧ w'.ownsRow B 59 2 v' (l ++ [p]).length (pcs (l ++ [p])) ∧ w.grownBy w' v.ownBlock ∧ (v'.ownBlock = v.ownBlock ∨ v'.ownBlock = some w.heap.size) ∧ ∃ A' c', v' = .slice A' (l ++ [p]).length c' := by
  obtain ⟨i0, hi, hz0, hz1, hz2⟩ := info_parts pair_info
  obtain ⟨v', w', hr, ho, hg, _, hat⟩ := run_append_own_at (P := Try.prog) w B 22 ty 59 i0 _ 2 32 Try.underlying22 hi hz0 hz1 hz2 rfl (by omega) v l.length (pcs l) hown ⟨g, 0, none⟩ 1 1 [.int .i64 p.key, .slice p.A p.n p.c]
    rfl (fun j u hj => by
      have e : ∀ j, (⟨g, 0, none⟩ : Addr).add j = ⟨g, j, none⟩ := fun j => by unfold Addr.add; split <;> simp_all
      rw [e]
      match j, hj with
      | 0, hj => simp at hj; rw [hc, hj]
      | 1, hj => simp at hj; rw [hc1, hj]) (fun u hu => by
      simp only [List.mem_cons, List.mem_singleton, List.not_mem_nil, or_false] at hu
      rcases hu with rfl | rfl <;> simp [Value.oneCell']) (by unfold maxLen; omega) (by omega) hB
  have h2 : w'.ownsRow B 59 2 v' (l ++ [p]).length (pcs (l ++ [p])) := by
    rw [List.length_append]
    have : pcs (l ++ [p]) = pcs l ++ [.int .i64 p.key, .slice p.A p.n p.c] := by simp [pcs, PArg.v]
    rw [this]
    exact ho
  refine ⟨v', w', hr, h2, hg, hat, ?_⟩
  rcases h2.2 with ⟨rfl, h0⟩ | ⟨g, cap, cur, rfl, _⟩
  · exact ⟨none, 0, by simp at h0⟩
  · exact ⟨_, _, rfl⟩
theorem row2_off {B : Nat} {w w' : World} {v : Value} {t : TypeId} {n : Nat} {xs : List Value} {S : Nat → Prop} (h : w.ownsRow B t 2 v n xs) (ho : Off S w w') (hs : ∀ g, v.ownBlock = some g → ¬ S g) : w'.ownsRow B t 2 v n xs := by
  refine ⟨h.1, ?_⟩
  rcases h.2 with hn | ⟨g, cap, cur, hh, hb, hgg, rest⟩
  · exact .inl hn
  · refine .inr ⟨g, cap, cur, hh, hb, ?_, rest⟩
    rw [ho.block g (Array.getElem?_eq_some_iff.1 hgg).1 (hs g (by rw [hh]; rfl))]
    exact hgg
def nthP (l : List PArg) (i : Nat) : PArg := l.getD i pz
theorem nthP_of {l : List PArg} {i : Nat} {p : PArg} (h : l[i]? = some p) : nthP l i = p := by unfold nthP; rw [List.getD_eq_getElem?_getD, h]; rfl
theorem nthP_left {l : List PArg} {p : PArg} {i : Nat} (h : i < l.length) : nthP (l ++ [p]) i = nthP l i := by
  unfold nthP
  rw [List.getD_eq_getElem?_getD, List.getD_eq_getElem?_getD, List.getElem?_append_left h]
theorem nthP_last (l : List PArg) (p : PArg) : nthP (l ++ [p]) l.length = p := nthP_of (by simp)
theorem mpU_congr {b b' : Nat → PArg} : ∀ (n : Nat), (∀ i, i < n → b i = b' i) → mpU b n = mpU b' n
  | 0, _ => rfl
  | n + 1, h => by
    show upd (mpU b n) (b n).key.toNat (some (b n).L) = upd (mpU b' n) (b' n).key.toNat (some (b' n).L)
    rw [mpU_congr n (fun i hi => h i (by omega)), h n (by omega)]
theorem mpU_snoc (l : List PArg) (p : PArg) : mpU (nthP (l ++ [p])) (l ++ [p]).length = upd (mpU (nthP l) l.length) p.key.toNat (some p.L) := by
  rw [List.length_append]
  show upd (mpU (nthP (l ++ [p])) l.length) (nthP (l ++ [p]) l.length).key.toNat (some (nthP (l ++ [p]) l.length).L) = _
  rw [nthP_last, mpU_congr l.length (fun i hi => nthP_left hi)]
theorem mpU_step {b : Nat → PArg} {j kn : Nat} {Ab : Option Addr} {nb cb : Nat} {Lb : Bytes} (h : b j = ⟨(kn : Int), Ab, nb, cb, Lb⟩) : mpU b (j + 1) = upd (mpU b j) kn (some Lb) := by
  show upd (mpU b j) (b j).key.toNat (some (b j).L) = _
  rw [h]
  rfl
/-- Keys that differ. -/
def Apart (b : Nat → PArg) (n : Nat) : Prop := ∀ i j, i < n → j < n → (b i).key.toNat = (b j).key.toNat → i = j
theorem mpU_at (b : Nat → PArg) : ∀ (n : Nat), Apart b n → ∀ i, i < n → mpU b n (b i).key.toNat = some (b i).L
  | 0, _, i, hi => by omega
  | n + 1, h, i, hi => by
    show upd (mpU b n) (b n).key.toNat (some (b n).L) (b i).key.toNat = _
    by_cases e : i = n
    · subst e; rw [upd_same]
    · rw [upd_other _ _ _ (fun e2 => e (h i n hi (by omega) e2))]
      exact mpU_at b n (fun i j hi hj he => h i j (by omega) (by omega) he) i (by omega)
def turned (b : Nat → PArg) (n t : Nat) (i : Nat) : PArg := b ((i + t) % n)
theorem mod_inj {i j t n : Nat} (hi : i < n) (hj : j < n) (h : (i + t) % n = (j + t) % n) : i = j := by
  have h1 : (i + t) % n = (i + t % n) % n := by rw [Nat.add_mod_mod]
  have h2 : (j + t) % n = (j + t % n) % n := by rw [Nat.add_mod_mod]
  rw [h1, h2] at h
  have ht : t % n < n := Nat.mod_lt _ (by omega)
  generalize t % n = s at *
  rcases Nat.lt_or_ge (i + s) n with a | a <;> rcases Nat.lt_or_ge (j + s) n with c | c
  · rw [Nat.mod_eq_of_lt a, Nat.mod_eq_of_lt c] at h; omega
  · rw [Nat.mod_eq_of_lt a, Nat.mod_eq_sub_mod c, Nat.mod_eq_of_lt (by omega)] at h; omega
  · rw [Nat.mod_eq_of_lt c, Nat.mod_eq_sub_mod a, Nat.mod_eq_of_lt (by omega)] at h; omega
  · rw [Nat.mod_eq_sub_mod a, Nat.mod_eq_sub_mod c, Nat.mod_eq_of_lt (by omega), Nat.mod_eq_of_lt (by omega)] at h; omega
theorem turned_apart {b : Nat → PArg} {n : Nat} (h : Apart b n) (t : Nat) : Apart (turned b n t) n := fun i j hi hj he =>
  mod_inj hi hj (h _ _ (Nat.mod_lt _ (by omega)) (Nat.mod_lt _ (by omega)) he)
theorem turned_map {b : Nat → PArg} {n : Nat} (h : Apart b n) (t : Nat) : mpU (turned b n t) n = mpU b n := by
  funext k
  by_cases hk : mpU b n k = none
  · rw [hk]
    by_cases h2 : mpU (turned b n t) n k = none
    · exact h2
    · exfalso
      obtain ⟨i, hi, e⟩ := mpU_key _ _ _ h2
      have := mpU_at b n h _ (Nat.mod_lt (i + t) (show n > 0 by omega))
      rw [show (b ((i + t) % n)).key.toNat = k from e, hk] at this
      cases this
  · obtain ⟨i, hi, e⟩ := mpU_key _ _ _ hk
    have hm : ∃ j, j < n ∧ (j + t) % n = i := by
      refine ⟨(i + (n - t % n)) % n, Nat.mod_lt _ (by omega), ?_⟩
      have ht : t % n < n := Nat.mod_lt _ (by omega)
      rw [Nat.mod_add_mod, ← Nat.add_mod_mod, show i + (n - t % n) + t % n = i + n by omega, Nat.add_mod_right, Nat.mod_eq_of_lt hi]
    obtain ⟨j, hj, hji⟩ := hm
    have e1 := mpU_at b n h i hi
    have e2 := mpU_at _ n (turned_apart h t) j hj
    have e3 : turned b n t j = b i := by unfold turned; rw [hji]
    rw [e3] at e2
    rw [e] at e1 e2
    rw [e1, e2]
theorem apart_snoc {l : List PArg} (h : Apart (nthP l) l.length) {p : PArg} (hp : mpU (nthP l) l.length p.key.toNat = none) : Apart (nthP (l ++ [p])) (l ++ [p]).length := by
  rw [List.length_append]
  have key : ∀ i, i < l.length → (nthP l i).key.toNat ≠ p.key.toNat := fun i hi e => by
    have := mpU_at _ _ h i hi
    rw [e, hp] at this
    cases this
  intro i j hi hj he
  have hi' : i < l.length + 1 := hi
  have hj' : j < l.length + 1 := hj
  rcases Nat.lt_or_ge i l.length with a | a <;> rcases Nat.lt_or_ge j l.length with c | c
  · rw [nthP_left a, nthP_left c] at he
    exact h i j a c he
  · obtain rfl : j = l.length := by omega
    rw [nthP_left a, nthP_last] at he
    exact absurd he (key i a)
  · obtain rfl : i = l.length := by omega
    rw [nthP_left c, nthP_last] at he
    exact absurd he.symm (key j c)
  · omega
/-- The pairs in the call's own row, as a list of pairs that came in. -/
theorem row_prs {B : Nat} {w : World} {A : Option Addr} {c : Nat} {l : List PArg} (h : w.ownsRow B 59 2 (.slice A l.length c) l.length (pcs l)) (hin : ∀ p ∈ l, p.In w) : Prs w A l.length (nthP l) := fun hp => by
  obtain ⟨G, cap, hG, hcap, _⟩ := World.ownsRow.form h hp
  have hlt := World.ownsRow.lt h
  rw [hG] at hlt
  cases hG
  refine ⟨G, 0, rfl, (hlt G rfl).2, fun k hk => ?_⟩
  have hk1 : l[k]? = some l[k] := List.getElem?_eq_getElem hk
  rw [nthP_of hk1, Nat.zero_add]
  have e : ∀ j, (⟨G, 0, none⟩ : Addr).add j = ⟨G, j, none⟩ := fun j => by unfold Addr.add; split <;> simp_all
  have c0 := World.ownsRow.cells h (g := G) rfl (k * 2) _ (pcs_at _ k _ hk1).1
  have c1 := World.ownsRow.cells h (g := G) rfl (k * 2 + 1) _ (pcs_at _ k _ hk1).2
  rw [e] at c0 c1
  exact ⟨c0, c1, hin _ (List.getElem_mem hk)⟩
/-- A law's world, the base of which is an elder one. -/
theorem ShL.base {W W2 V : World} {S T : Nat} {O : Nat → Prop} {st : ShS × Int} (h : ShL W2 V S T O st) (hb : Below W.heap.size W W2) : ShL W V S T O st :=
  ⟨h.tr, fun k hk => Nat.le_trans hb.size (h.hO k hk), Nat.le_trans hb.size h.hT, h.inn, hb.trans (h.bel.mono hb.size)⟩
/-- The law's first loop: the pairs so far, each key's first. -/
structure Lp1 (W V : World) (Mb : Nat) (l : List PArg) (A : Option Addr) (c : Nat) (ps : Ps) : Prop where
  bel : Below W.heap.size W V
  mp : GMap V Mb (mpU (nthP l) l.length) ps.length
  lst : Lst (mpU (nthP l) l.length) ps
  row : V.ownsRow W.heap.size 59 2 (.slice A l.length c) l.length (pcs l)
  ok : ∀ p ∈ l, p.In W ∧ keyOk p.key ∧ p.L.length ≤ 256
  apart : Apart (nthP l) l.length
  geM : W.heap.size ≤ Mb
  neM : (Value.slice A l.length c).ownBlock ≠ some Mb
structure Lp1h (W V : World) (Mb : Nat) (l : List PArg) (A : Option Addr) (c : Nat) (m : Mp) (ps : Ps) : Prop where
  bel : Below W.heap.size W V
  mp : GMap V Mb m ps.length
  lst : Lst m ps
  row : V.ownsRow W.heap.size 59 2 (.slice A l.length c) l.length (pcs l)
section
variable {W V V' : World} {Mb : Nat} {l : List PArg} {A : Option Addr} {c : Nat} {ps : Ps} {m : Mp}
theorem Lp1.up (h : Lp1 W V Mb l A c ps) (hb : Below V.heap.size V V') : Lp1 W V' Mb l A c ps :=
  ⟨h.bel.trans (hb.mono h.bel.size), h.mp.off (S := fun _ => False) (Off.of_below hb) id, h.lst, row2_off h.row (S := fun _ => False) (Off.of_below hb) (fun _ _ => id), h.ok, h.apart, h.geM, h.neM⟩
theorem Lp1.put (h : Lp1 W V Mb l A c ps) {key : Nat} (hk : key < 16777216) (L : Bytes) :
    ∃ w', (Instr.mapUpdate 31 (.map (some Mb)) (.int .i64 (key : Nat)) (.string (strB L))).run Try.prog V = .ok () w' ∧ Lp1h W w' Mb l A c (upd (mpU (nthP l) l.length) key (some L)) (insP key L ps) := by
  obtain ⟨w', h1, h2, h3⟩ := h.mp.put hk L
  refine ⟨w', h1, h.bel.trans (h3.below (fun k e => by rw [e]; exact h.geM) h.bel.size), ?_, h.lst.set key L, row2_off h.row h3 (fun g hg e => h.neM (by rw [hg, e]))⟩
  rw [h.lst.set_len key L]
  exact h2
/-- One more pair. -/
theorem Lp1.next (h0 : Lp1 W V' Mb l A c ps) {p : PArg} {key : Nat} (hk : p.key = (key : Nat)) (hkn : key < 16777216) (hin : p.In W) (hL : p.L.length ≤ 256) (hnone : mpU (nthP l) l.length key = none) (h : Lp1h W V Mb l A c (upd (mpU (nthP l) l.length) key (some p.L)) (insP key p.L ps)) (hlen : l.length ≤ 1048576) (ty : TypeId) :
    ∃ A' c' w', (Builtin.append_ #[22, 22] ty #[.slice A l.length c, .slice (some ⟨V.heap.size, 0, none⟩) 1 1]).run Try.prog (V.alloc (.cells #[.int .i64 p.key, .slice p.A p.n p.c] 59)) = .ok (.slice A' (l ++ [p]).length c') w' ∧ Lp1 W w' Mb (l ++ [p]) A' c' (insP key p.L ps) := by
  have hb : Below V.heap.size V (V.alloc (.cells #[.int .i64 p.key, .slice p.A p.n p.c] 59)) := (Below.refl _ _).alloc (Nat.le_refl _) _
  have c0 : (V.alloc (.cells #[.int .i64 p.key, .slice p.A p.n p.c] 59)).cell? ⟨V.heap.size, 0, none⟩ = some (.int .i64 p.key) := by simp [go_sem]
  have c1 : (V.alloc (.cells #[.int .i64 p.key, .slice p.A p.n p.c] 59)).cell? ⟨V.heap.size, 1, none⟩ = some (.slice p.A p.n p.c) := by simp [go_sem]
  have hrow := row2_off h.row (S := fun _ => False) (Off.of_below hb) (fun _ _ => id)
  have hmp := h.mp.off (S := fun _ => False) (Off.of_below hb) id
  have hml := MapIs.lt h.mp
  have hs := hb.size
  generalize V.alloc (.cells #[.int .i64 p.key, .slice p.A p.n p.c] 59) = V1 at *
  have hb1 : Below W.heap.size W V1 := h.bel.trans (hb.mono h.bel.size)
  obtain ⟨v', w', hr, ho, hg, hat, A', c', hv⟩ := run_appP hrow c0 c1 hb1.size hlen ty
  subst hv
  have hoff := grown_off hg
  have hlt := World.ownsRow.lt hrow
  have hsn := mpU_snoc l p
  rw [hk, Int.toNat_natCast] at hsn
  refine ⟨A', c', w', hr, hb1.trans (hoff.below (fun k e => (hlt k e).1) hb1.size), ?_, ?_, ho, ?_, apart_snoc h0.apart (by rw [hk, Int.toNat_natCast]; exact hnone), h0.geM, ?_⟩
  · rw [hsn]
    exact hmp.off hoff (fun e => h0.neM e)
  · rw [hsn]; exact h.lst
  · intro q hq
    rcases List.mem_append.1 hq with hq | hq
    · exact h0.ok q hq
    · obtain rfl := List.mem_singleton.1 hq
      exact ⟨hin, by rw [hk]; exact ⟨by omega, by omega⟩, hL⟩
  · rcases hat with e | e
    · rw [e]; exact h0.neM
    · rw [e]
      intro e2
      injection e2 with e3
      omega
theorem Lp1.start (hb : Below W.heap.size W V) : Lp1 W (V.alloc (.map #[] 0)) V.heap.size [] none 0 [] :=
  ⟨hb.alloc hb.size _, (by
    unfold GMap
    rw [show mpU (nthP []) ([] : List PArg).length = fun _ => none from rfl, gmF_none]
    exact MapIs.made V), Lst.nil, World.ownsRow_nil _ _ _ _, fun p hp => by simp at hp, fun i j hi => by simp at hi, hb.size, by simp [Value.ownBlock]⟩
/-- The row, behind the loop. -/
theorem Lp1.prs (h : Lp1 W V Mb l A c ps) : Prs V A l.length (nthP l) := row_prs h.row (fun p hp => ⟨(h.ok p hp).1.1.up h.bel, (h.ok p hp).1.2⟩)
theorem Lp1.at_ (h : Lp1 W V Mb l A c ps) {i : Nat} (hi : i < l.length) : keyOk (nthP l i).key ∧ (nthP l i).L.length ≤ 256 ∧ (nthP l i).In W := by
  have h1 : nthP l i = l[i] := nthP_of (List.getElem?_eq_getElem hi)
  rw [h1]
  have := h.ok _ (List.getElem_mem hi)
  exact ⟨this.2.1, this.2.2, this.1⟩
end
section
variable {W W2 w w' V : World} {S T g g2 : Nat} {O O' : Nat → Prop} {st st' : ShS × Int} {r r2 : Int × Int}
theorem RtAt.root (h : RtAt W w S T g O st r) (r' : Int × Int) : RtAt W ((w.setCell ⟨g, 0, none⟩ (.int .i64 r'.1)).setCell ⟨g, 1, none⟩ (.int .i64 r'.2)) S T g O st r' :=
  ⟨h.l.offW (h.box.set r').2 (fun k e => by cases e; exact ⟨h.out, h.ge⟩), (h.box.set r').1, h.out, h.ge⟩
theorem RtAt.rootO (h : RtAt W w S T g O st r) (h2 : RtAt W w S T g2 O st r2) (ne : g ≠ g2) (r' : Int × Int) : RtAt W ((w.setCell ⟨g, 0, none⟩ (.int .i64 r'.1)).setCell ⟨g, 1, none⟩ (.int .i64 r'.2)) S T g2 O st r2 :=
  h2.offW (h.box.set r').2 (fun k e => by cases e; exact ⟨h.out, h.ge, ne⟩)
/-- Behind a Set over two roots: the answer in a new box. -/
theorem setA {ga gb : Nat} {ra rb r' : Int × Int} {m M : Mp} {X : Int × Int → Prop} {n N : Nat} {e : Ending} (ha : RtAt W w S T ga O st ra) (hb : RtAt W w S T gb O st rb) (ht : TellsR (shRd st.1.L) rb m) {w1 : World} (hw : Below w.heap.size w w1) (k : SetOk W w1 w' S T O O' st st' n N (fun rd' r' => Tells rd' 0 0 r' M ∧ X r') r' e) (t : TypeId) :
    RtAt W (w'.alloc (.cells #[.int .i64 r'.1, .int .i64 r'.2] t)) S T ga O' st' ra ∧ RtAt W (w'.alloc (.cells #[.int .i64 r'.1, .int .i64 r'.2] t)) S T gb O' st' rb ∧ RtAt W (w'.alloc (.cells #[.int .i64 r'.1, .int .i64 r'.2] t)) S T w'.heap.size O' st' r' ∧ ga ≠ w'.heap.size ∧ gb ≠ w'.heap.size ∧ shK.Rdy st'.1 n ∧ st'.1.full < 0 ∧ Tells (shRd st'.1.L) 0 0 r' M ∧ TellsR (shRd st'.1.L) rb m := by
  have a1 := SetOk.rt ha hw k
  have b1 := SetOk.rt hb hw k
  obtain ⟨j, _, haft⟩ := k.aft
  exact ⟨(a1.boxA r' t).1, (b1.boxA r' t).1, (a1.boxA r' t).2, by have := a1.box.lt; omega, by have := b1.box.lt; omega, k.rdy, k.full, k.g.1, TellsK.mono ht haft.sub⟩
/-- In a box that was made ahead of the Set. -/
theorem setB {ga gb g9 : Nat} {ra rb r' r0 : Int × Int} {m M : Mp} {X : Int × Int → Prop} {n N : Nat} {e : Ending} (ha : RtAt W w S T ga O st ra) (hb : RtAt W w S T gb O st rb) (ht : TellsR (shRd st.1.L) rb m) {w1 : World} (hw : Below w.heap.size w w1) (k : SetOk W w1 w' S T O O' st st' n N (fun rd' r' => Tells rd' 0 0 r' M ∧ X r') r' e) (h2 : BoxA w' g9 r0) (o2 : Out O' T g9) (h9 : g9 = w.heap.size) :
    RtAt W ((w'.setCell ⟨g9, 0, none⟩ (.int .i64 r'.1)).setCell ⟨g9, 1, none⟩ (.int .i64 r'.2)) S T ga O' st' ra ∧ RtAt W ((w'.setCell ⟨g9, 0, none⟩ (.int .i64 r'.1)).setCell ⟨g9, 1, none⟩ (.int .i64 r'.2)) S T gb O' st' rb ∧ RtAt W ((w'.setCell ⟨g9, 0, none⟩ (.int .i64 r'.1)).setCell ⟨g9, 1, none⟩ (.int .i64 r'.2)) S T g9 O' st' r' ∧ ga ≠ g9 ∧ gb ≠ g9 ∧ shK.Rdy st'.1 n ∧ st'.1.full < 0 ∧ Tells (shRd st'.1.L) 0 0 r' M ∧ TellsR (shRd st'.1.L) rb m := by
  have a1 := SetOk.rt ha hw k
  have b1 := SetOk.rt hb hw k
  have la := ha.box.lt
  have lb := hb.box.lt
  have hge := ha.l.bel.size
  obtain ⟨j, _, haft⟩ := k.aft
  obtain ⟨x1, x2⟩ := a1.boxB h2 o2 (by omega) (by omega) r'
  obtain ⟨y1, y2⟩ := b1.boxB h2 o2 (by omega) (by omega) r'
  exact ⟨x1, y1, x2, by omega, by omega, k.rdy, k.full, k.g.1, TellsK.mono ht haft.sub⟩
theorem RtAt.base (h : RtAt W2 w S T g O st r) (hb : Below W.heap.size W W2) : RtAt W w S T g O st r := ⟨h.l.base hb, h.box, h.out, Nat.le_trans hb.size h.ge⟩
end
end Go.Proofs.Ytgkdggidgaifhaa
