/- radix's laws: RadixPlays' world: the roots so far, their maps. -/
import Derived.Test.YtbmlggieifaniaaRa
import Derived.Test.YtbmlggieifaniaaQj
import Derived.Deep.CutBlock
namespace Go.Proofs.Ytbmlggieifaniaa
open Go.RowKit Go.Maps
set_option linter.unusedVariables false
set_option linter.unusedSimpArgs false

theorem rowN_off {B sz : Nat} {w w' : World} {v : Value} {t : TypeId} {n : Nat} {xs : List Value} {S : Nat → Prop} (h : w.ownsRow B t sz v n xs) (ho : Off S w w') (hs : ∀ g, v.ownBlock = some g → ¬ S g) : w'.ownsRow B t sz v n xs := by
  refine ⟨h.1, ?_⟩
  rcases h.2 with hn | ⟨g, cap, cur, hh, hb, hgg, rest⟩
  · exact .inl hn
  · refine .inr ⟨g, cap, cur, hh, hb, ?_, rest⟩
    rw [ho.block g (Array.getElem?_eq_some_iff.1 hgg).1 (hs g (by rw [hh]; rfl))]
    exact hgg
theorem root_info : (Try.prog.info? 32).map (fun i => (i.zero, i.size, i.bytes)) = some (some (.agg #[.int .i64 0, .int .i64 0]), 2, 16) := by kernel_rfl
theorem map_info : (Try.prog.info? 30).map (fun i => (i.zero, i.size, i.bytes)) = some (some (.map none), 1, 8) := by kernel_rfl
def rcs (rs : List (Int × Int)) : List Value := rs.flatMap fun r => [.int .i64 r.1, .int .i64 r.2]
theorem rcs_at : ∀ (rs : List (Int × Int)) (i : Nat) (r : Int × Int), rs[i]? = some r → (rcs rs)[i * 2]? = some (.int .i64 r.1) ∧ (rcs rs)[i * 2 + 1]? = some (.int .i64 r.2)
  | [], i, r, h => by simp at h
  | q :: rs, i, r, h => by
    cases i with
    | zero => simp at h; subst h; simp [rcs]
    | succ i =>
      rw [List.getElem?_cons_succ] at h
      have := rcs_at rs i r h
      simp only [rcs, List.flatMap_cons] at this ⊢
      rw [show (i + 1) * 2 = i * 2 + 2 by omega, show i * 2 + 2 + 1 = i * 2 + 1 + 2 by omega]
      simpa using this
theorem add0 (G j : Nat) : (⟨G, 0, none⟩ : Addr).add j = ⟨G, j, none⟩ := by unfold Addr.add; split <;> simp_all
/-- append of one root. -/
theorem run_appRoot {B : Nat} {w : World} {G cap : Nat} {rs : List (Int × Int)} {g : Nat} {r : Int × Int} (hown : w.ownsRow B 32 2 (.slice (some ⟨G, 0, none⟩) rs.length cap) rs.length (rcs rs)) (hc : w.cell? ⟨g, 0, none⟩ = some (.int .i64 r.1)) (hc1 : w.cell? ⟨g, 1, none⟩ = some (.int .i64 r.2)) (hB : B ≤ w.heap.size) (hlen : rs.length ≤ 1048576) (ty : TypeId) :
    ∃ G' cap' w', (Builtin.append_ #[48, 48] ty #[.slice (some ⟨G, 0, none⟩) rs.length cap, .slice (some ⟨g, 0, none⟩) 1 1]).run Try.prog w = .ok (.slice (some ⟨G', 0, none⟩) (rs.length + 1) cap') w' ∧ w'.ownsRow B 32 2 (.slice (some ⟨G', 0, none⟩) (rs.length + 1) cap') (rs ++ [r]).length (rcs (rs ++ [r])) ∧ Off (· = G) w w' ∧ (G' = G ∨ G' = w.heap.size) := by
  obtain ⟨i0, hi, hz0, hz1, hz2⟩ := info_parts root_info
  obtain ⟨v', w', hr, ho, hg, _, hat⟩ := run_append_own_at (P := Try.prog) w B 48 ty 32 i0 _ 2 16 Try.underlying48 hi hz0 hz1 hz2 rfl (by omega) _ rs.length (rcs rs) hown ⟨g, 0, none⟩ 1 1 [.int .i64 r.1, .int .i64 r.2]
    rfl (fun j u hj => by
      rw [add0]
      match j, hj with
      | 0, hj => simp at hj; rw [hc, hj]
      | 1, hj => simp at hj; rw [hc1, hj]) (fun u hu => by
      simp only [List.mem_cons, List.mem_singleton, List.not_mem_nil, or_false] at hu
      rcases hu with rfl | rfl <;> simp [Value.oneCell']) (by unfold maxLen; omega) (by omega) hB
  have h2 : w'.ownsRow B 32 2 v' (rs ++ [r]).length (rcs (rs ++ [r])) := by
    rw [List.length_append]
    have : rcs (rs ++ [r]) = rcs rs ++ [.int .i64 r.1, .int .i64 r.2] := by simp [rcs]
    rw [this]
    exact ho
  obtain ⟨G', cap', hv, _⟩ := World.ownsRow.form h2 (by rw [List.length_append]; show 0 < rs.length + 1; omega)
  have hl : (rs ++ [r]).length = rs.length + 1 := by simp
  rw [hl] at hv
  subst hv
  have hoff : Off (· = G) w w' := (grown_off hg).mono fun k hk => by
    have e : (Value.slice (some ⟨G, 0, none⟩) rs.length cap).ownBlock = some G := rfl
    rw [e] at hk
    exact (Option.some.inj hk).symm
  refine ⟨G', cap', w', hr, h2, hoff, ?_⟩
  rcases hat with e | e
  · exact .inl (Option.some.inj e)
  · exact .inr (Option.some.inj e)
def mcs (es : List (Nat × Mp × Ps)) : List Value := es.map fun x => .map (some x.1)
/-- append of one map. -/
theorem run_appMap {B : Nat} {w : World} {G cap : Nat} {es : List (Nat × Mp × Ps)} {g : Nat} {x : Nat × Mp × Ps} (hown : w.ownsRow B 30 1 (.slice (some ⟨G, 0, none⟩) es.length cap) es.length (mcs es)) (hc : w.cell? ⟨g, 0, none⟩ = some (.map (some x.1))) (hB : B ≤ w.heap.size) (hlen : es.length ≤ 1048576) (ty : TypeId) :
    ∃ G' cap' w', (Builtin.append_ #[49, 49] ty #[.slice (some ⟨G, 0, none⟩) es.length cap, .slice (some ⟨g, 0, none⟩) 1 1]).run Try.prog w = .ok (.slice (some ⟨G', 0, none⟩) (es.length + 1) cap') w' ∧ w'.ownsRow B 30 1 (.slice (some ⟨G', 0, none⟩) (es.length + 1) cap') (es ++ [x]).length (mcs (es ++ [x])) ∧ Off (· = G) w w' ∧ (G' = G ∨ G' = w.heap.size) := by
  obtain ⟨i0, hi, hz0, hz1, hz2⟩ := info_parts map_info
  obtain ⟨v', w', hr, ho, hg, _, hat⟩ := run_append_own_at (P := Try.prog) w B 49 ty 30 i0 _ 1 8 Try.underlying49 hi hz0 hz1 hz2 rfl (by omega) _ es.length (mcs es) hown ⟨g, 0, none⟩ 1 1 [.map (some x.1)]
    rfl (fun j u hj => by
      rw [add0]
      match j, hj with
      | 0, hj => simp at hj; rw [hc, hj]) (fun u hu => by
      simp only [List.mem_singleton] at hu
      subst hu
      simp [Value.oneCell']) (by unfold maxLen; omega) (by omega) hB
  have h2 : w'.ownsRow B 30 1 v' (es ++ [x]).length (mcs (es ++ [x])) := by
    rw [List.length_append]
    have : mcs (es ++ [x]) = mcs es ++ [.map (some x.1)] := by simp [mcs]
    rw [this]
    exact ho
  obtain ⟨G', cap', hv, _⟩ := World.ownsRow.form h2 (by rw [List.length_append]; show 0 < es.length + 1; omega)
  have hl : (es ++ [x]).length = es.length + 1 := by simp
  rw [hl] at hv
  subst hv
  have hoff : Off (· = G) w w' := (grown_off hg).mono fun k hk => by
    have e : (Value.slice (some ⟨G, 0, none⟩) es.length cap).ownBlock = some G := rfl
    rw [e] at hk
    exact (Option.some.inj hk).symm
  refine ⟨G', cap', w', hr, h2, hoff, ?_⟩
  rcases hat with e | e
  · exact .inl (Option.some.inj e)
  · exact .inr (Option.some.inj e)

/-- What a root tells, its map. -/
structure Ent1 (W V : World) (O : Nat → Prop) (T : Nat) (st : ShS × Int) (r : Int × Int) (x : Nat × Mp × Ps) : Prop where
  tl : TellsR (shRd st.1.L) r x.2.1
  mp : GMap V x.1 x.2.1 x.2.2.length
  lst : Lst x.2.1 x.2.2
  out : Out O T x.1
  ge : W.heap.size ≤ x.1
  small : x.2.2.length ≤ 149796
/-- The play's world. -/
structure Plx (W V : World) (S T : Nat) (O : Nat → Prop) (st : ShS × Int) (g5 c5 g6 c6 : Nat) (rs : List (Int × Int)) (es : List (Nat × Mp × Ps)) : Prop where
  l : ShL W V S T O st
  rowR : V.ownsRow W.heap.size 32 2 (.slice (some ⟨g5, 0, none⟩) rs.length c5) rs.length (rcs rs)
  rowM : V.ownsRow W.heap.size 30 1 (.slice (some ⟨g6, 0, none⟩) es.length c6) es.length (mcs es)
  len : rs.length = es.length
  o5 : Out O T g5
  o6 : Out O T g6
  ne : g5 ≠ g6
  ent : ∀ (i : Nat) r x, rs[i]? = some r → es[i]? = some x → Ent1 W V O T st r x ∧ x.1 ≠ g5 ∧ x.1 ≠ g6
  apart : ∀ (i j : Nat) x y, es[i]? = some x → es[j]? = some y → x.1 = y.1 → i = j
section
variable {W V V' : World} {S T : Nat} {O O' : Nat → Prop} {st st' : ShS × Int} {g5 c5 g6 c6 : Nat} {rs : List (Int × Int)} {es : List (Nat × Mp × Ps)}
theorem Plx.lt5 (h : Plx W V S T O st g5 c5 g6 c6 rs es) : W.heap.size ≤ g5 ∧ g5 < V.heap.size := World.ownsRow.lt h.rowR g5 rfl
theorem Plx.lt6 (h : Plx W V S T O st g5 c5 g6 c6 rs es) : W.heap.size ≤ g6 ∧ g6 < V.heap.size := World.ownsRow.lt h.rowM g6 rfl
/-- Other blocks have changed. -/
theorem Plx.off {P : Nat → Prop} (h : Plx W V S T O st g5 c5 g6 c6 rs es) (ho : Off P V V') (hl : ShL W V' S T O' st') (hO : ∀ k, O' k → O k ∨ V.heap.size ≤ k) (hs : SubR (shRd st.1.L) (shRd st'.1.L)) (h5 : ¬ P g5) (h6 : ¬ P g6) (hm : ∀ x ∈ es, ¬ P x.1) : Plx W V' S T O' st' g5 c5 g6 c6 rs es :=
  ⟨hl, rowN_off h.rowR ho (fun g e => by cases e; exact h5), rowN_off h.rowM ho (fun g e => by cases e; exact h6), h.len, out_next h.o5 hO h.lt5.2, out_next h.o6 hO h.lt6.2, h.ne,
    fun i r x e1 e2 => by
      obtain ⟨k, k5, k6⟩ := h.ent i r x e1 e2
      exact ⟨⟨TellsK.mono k.tl hs, k.mp.off ho (hm x (List.mem_of_getElem? e2)), k.lst, out_next k.out hO (MapIs.lt k.mp), k.ge, k.small⟩, k5, k6⟩, h.apart⟩
theorem Plx.up (h : Plx W V S T O st g5 c5 g6 c6 rs es) (hb : Below V.heap.size V V') : Plx W V' S T O st g5 c5 g6 c6 rs es :=
  h.off (P := fun _ => False) (Off.of_below hb) (h.l.up hb) (fun _ => .inl) (SubR.refl _) id id (fun _ _ => id)
theorem Plx.entO (h : Plx W V S T O st g5 c5 g6 c6 rs es) {x : Nat × Mp × Ps} (hx : x ∈ es) : Out O T x.1 ∧ W.heap.size ≤ x.1 ∧ x.1 < V.heap.size ∧ x.1 ≠ g5 ∧ x.1 ≠ g6 := by
  obtain ⟨i, hi⟩ := List.mem_iff_getElem?.1 hx
  have hlt := (List.getElem?_eq_some_iff.1 hi).1
  have hr : rs[i]? = some (rs[i]'(by rw [h.len]; exact hlt)) := List.getElem?_eq_getElem _
  obtain ⟨k, k5, k6⟩ := h.ent i _ x hr hi
  exact ⟨k.out, k.ge, MapIs.lt k.mp, k5, k6⟩
/-- A Set or a Delete. -/
theorem Plx.set {N n : Nat} {G : Rdr → Int × Int → Prop} {r' : Int × Int} {e : Ending} {w1 : World} (h : Plx W V S T O st g5 c5 g6 c6 rs es) (hb : Below V.heap.size V w1) (k : SetOk W w1 V' S T O O' st st' n N G r' e) : Plx W V' S T O' st' g5 c5 g6 c6 rs es := by
  have h1 := h.up hb
  obtain ⟨_, _, ha⟩ := k.aft
  exact h1.off k.off k.l k.hO ha.sub (fun e => e.elim h1.o5.1 h1.o5.2) (fun e => e.elim h1.o6.1 h1.o6.2) (fun x hx e => e.elim (h1.entO hx).1.1 (h1.entO hx).1.2)
/-- A Get. -/
theorem Plx.get {s' : ShS} (h : Plx W V S T O st g5 c5 g6 c6 rs es) (k : GetOk W V V' S T O st s') : Plx W V' S T O (s', st.2) g5 c5 g6 c6 rs es :=
  h.off k.off k.l (fun _ => .inl) k.aft.sub h.o5.1 h.o6.1 (fun x hx => (h.entO hx).1.1)
/-- Same. -/
theorem Plx.sm {i : Nat} {x : Nat × Mp × Ps} {s' : ShS} (h : Plx W V S T O st g5 c5 g6 c6 rs es) (hx : es[i]? = some x) (k : SmOk W V S T O st x.1 x.2.1 x.2.2.length V' s') : Plx W V' S T O (s', st.2) g5 c5 g6 c6 rs es := by
  have hxm := h.entO (List.mem_of_getElem? hx)
  refine ⟨k.l, rowN_off h.rowR k.off (fun g e => by cases e; exact fun e => e.elim h.o5.1 (fun e => hxm.2.2.2.1 e.symm)), rowN_off h.rowM k.off (fun g e => by cases e; exact fun e => e.elim h.o6.1 (fun e => hxm.2.2.2.2 e.symm)), h.len, h.o5, h.o6, h.ne, fun j r y e1 e2 => ?_, h.apart⟩
  obtain ⟨q, q5, q6⟩ := h.ent j r y e1 e2
  refine ⟨⟨TellsK.mono q.tl k.aft.sub, ?_, q.lst, q.out, q.ge, q.small⟩, q5, q6⟩
  by_cases e : y.1 = x.1
  · obtain rfl := h.apart j i y x e2 hx e
    rw [hx] at e2
    cases e2
    exact k.mp
  · exact q.mp.off k.off (fun h => h.elim q.out.1 e)
theorem Plx.root (h : Plx W V S T O st g5 c5 g6 c6 rs es) {i : Nat} {r : Int × Int} (hr : rs[i]? = some r) : V.cell? ⟨g5, i * 2, none⟩ = some (.int .i64 r.1) ∧ V.cell? ⟨g5, i * 2 + 1, none⟩ = some (.int .i64 r.2) := by
  have c0 := World.ownsRow.cells h.rowR (g := g5) rfl (i * 2) _ (rcs_at _ i _ hr).1
  have c1 := World.ownsRow.cells h.rowR (g := g5) rfl (i * 2 + 1) _ (rcs_at _ i _ hr).2
  rw [add0] at c0 c1
  exact ⟨c0, c1⟩
theorem Plx.map (h : Plx W V S T O st g5 c5 g6 c6 rs es) {i : Nat} {x : Nat × Mp × Ps} (hx : es[i]? = some x) : V.cell? ⟨g6, i, none⟩ = some (.map (some x.1)) := by
  have c0 := World.ownsRow.cells h.rowM (g := g6) rfl i (.map (some x.1)) (by unfold mcs; rw [List.getElem?_map, hx]; rfl)
  rw [add0] at c0
  exact c0
/-- One more root, with its map. -/
theorem Plx.push (h : Plx W V S T O st g5 c5 g6 c6 rs es) {r : Int × Int} {x : Nat × Mp × Ps} (hn : Ent1 W V O T st r x) (h5 : x.1 ≠ g5) (h6 : x.1 ≠ g6) (ha : ∀ y ∈ es, y.1 ≠ x.1) (hlen : es.length ≤ 1000) (t5 t6 : TypeId) :
    ∃ g5' c5' w5, (Builtin.append_ #[48, 48] t5 #[.slice (some ⟨g5, 0, none⟩) rs.length c5, .slice (some ⟨V.heap.size, 0, none⟩) 1 1]).run Try.prog (V.alloc (.cells #[.int .i64 r.1, .int .i64 r.2] 32)) = .ok (.slice (some ⟨g5', 0, none⟩) (rs.length + 1) c5') w5 ∧
      ∃ g6' c6' w6, (Builtin.append_ #[49, 49] t6 #[.slice (some ⟨g6, 0, none⟩) es.length c6, .slice (some ⟨w5.heap.size, 0, none⟩) 1 1]).run Try.prog (w5.alloc (.cells #[.map (some x.1)] 30)) = .ok (.slice (some ⟨g6', 0, none⟩) (es.length + 1) c6') w6 ∧
        Plx W w6 S T O st g5' c5' g6' c6' (rs ++ [r]) (es ++ [x]) ∧ Off (fun k => k = g5 ∨ k = g6) V w6 := by
  have hb1 : Below V.heap.size V (V.alloc (.cells #[.int .i64 r.1, .int .i64 r.2] 32)) := (Below.refl _ _).alloc (Nat.le_refl _) _
  have c0 : (V.alloc (.cells #[.int .i64 r.1, .int .i64 r.2] 32)).cell? ⟨V.heap.size, 0, none⟩ = some (.int .i64 r.1) := by simp [go_sem]
  have c1 : (V.alloc (.cells #[.int .i64 r.1, .int .i64 r.2] 32)).cell? ⟨V.heap.size, 1, none⟩ = some (.int .i64 r.2) := by simp [go_sem]
  have hs1 := hb1.size
  have p1 := h.up hb1
  have hVB := h.l.bel.size
  generalize V.alloc (.cells #[.int .i64 r.1, .int .i64 r.2] 32) = V1 at *
  obtain ⟨g5', c5', w5, hr5, hrow5, ho5, hg5⟩ := run_appRoot p1.rowR c0 c1 p1.l.bel.size (by rw [h.len]; omega) t5
  have hb2 : Below w5.heap.size w5 (w5.alloc (.cells #[.map (some x.1)] 30)) := (Below.refl _ _).alloc (Nat.le_refl _) _
  have d0 : (w5.alloc (.cells #[.map (some x.1)] 30)).cell? ⟨w5.heap.size, 0, none⟩ = some (.map (some x.1)) := by simp [go_sem]
  have hs2 := hb2.size
  have hs5 := ho5.size
  have row6 : w5.ownsRow W.heap.size 30 1 (.slice (some ⟨g6, 0, none⟩) es.length c6) es.length (mcs es) := rowN_off p1.rowM ho5 (fun g e => by cases e; exact fun e => h.ne e.symm)
  have row6' := rowN_off row6 (S := fun _ => False) (Off.of_below hb2) (fun _ _ => id)
  have ho2 : Off (· = g5) V1 (w5.alloc (.cells #[.map (some x.1)] 30)) := ho5.step hb2
  obtain ⟨V2, hV2⟩ : ∃ V2, w5.alloc (.cells #[.map (some x.1)] 30) = V2 := ⟨_, rfl⟩
  rw [hV2] at hb2 d0 hs2 row6' ho2
  obtain ⟨g6', c6', w6, hr6, hrow6, ho6, hg6⟩ := run_appMap row6' d0 (by have := p1.l.bel.size; omega) (by omega) t6
  have l5 := p1.lt5
  have l6 := p1.lt6
  have hoff : Off (fun k => k = g5 ∨ k = g6) V1 w6 := (ho2.mono fun _ => Or.inl).trans (ho6.mono fun _ => Or.inr)
  have hoffV : Off (fun k => k = g5 ∨ k = g6) V w6 := (Off.of_below hb1).trans hoff
  have hs6 := ho6.size
  have hlsh : ShL W w6 S T O st := p1.l.offW hoff (fun k e => by rcases e with rfl | rfl; exact ⟨p1.o5, l5.1⟩; exact ⟨p1.o6, l6.1⟩)
  have oNew : ∀ k, V1.heap.size ≤ k → Out O T k := fun k hk => p1.l.tr.outOf hk
  have h65 : g6' ≠ g5' := by
    have := h.ne
    have hlt5' : g5' < w5.heap.size := (World.ownsRow.lt hrow5 g5' rfl).2
    rcases hg5 with rfl | rfl <;> rcases hg6 with rfl | rfl <;> omega
  have hx1 := MapIs.lt hn.mp
  refine ⟨g5', c5', w5, hr5, g6', c6', w6, by rw [hV2]; exact hr6, ⟨hlsh, ?_, ?_, by simp [h.len], ?_, ?_, fun e => h65 e.symm, ?_, ?_⟩, hoffV⟩
  · have hl : (rs ++ [r]).length = rs.length + 1 := by simp
    have hf : w6.ownsRow W.heap.size 32 2 (.slice (some ⟨g5', 0, none⟩) (rs.length + 1) c5') (rs ++ [r]).length (rcs (rs ++ [r])) := by
      have h56 : ¬ g5' = g6 := by
        rcases hg5 with e0 | e0
        · rw [e0]; exact h.ne
        · omega
      exact rowN_off (rowN_off hrow5 (S := fun _ => False) (Off.of_below hb2) (fun _ _ => id)) ho6 (fun g e => by cases e; exact h56)
    rw [hl] at hf ⊢
    exact hf
  · have hl : (es ++ [x]).length = es.length + 1 := by simp
    rw [hl] at hrow6 ⊢
    exact hrow6
  · rcases hg5 with rfl | rfl
    · exact p1.o5
    · exact oNew _ (Nat.le_refl _)
  · rcases hg6 with rfl | rfl
    · exact p1.o6
    · exact oNew _ (by omega)
  · intro i r' y e1 e2
    have hbase : ∀ {r y}, Ent1 W V O T st r y → y.1 ≠ g5 → y.1 ≠ g6 → Ent1 W w6 O T st r y ∧ y.1 ≠ g5' ∧ y.1 ≠ g6' := fun {r y} q q5 q6 => by
      have hlt := MapIs.lt q.mp
      refine ⟨⟨q.tl, q.mp.off hoffV (fun e => e.elim q5 q6), q.lst, q.out, q.ge, q.small⟩, ?_, ?_⟩
      · rcases hg5 with rfl | rfl
        · exact q5
        · omega
      · rcases hg6 with rfl | rfl
        · exact q6
        · omega
    rcases Nat.lt_or_ge i es.length with hi | hi
    · rw [List.getElem?_append_left (by rw [h.len]; exact hi)] at e1
      rw [List.getElem?_append_left hi] at e2
      obtain ⟨q, q5, q6⟩ := h.ent i r' y e1 e2
      exact hbase q q5 q6
    · have hlt : i < (es ++ [x]).length := (List.getElem?_eq_some_iff.1 e2).1
      have hie : i = es.length := by simp at hlt; omega
      subst hie
      rw [show es.length = rs.length from h.len.symm] at e1
      simp at e1 e2
      subst e1
      subst e2
      exact hbase hn h5 h6
  · intro i j y z e1 e2 e
    have hi : i < (es ++ [x]).length := (List.getElem?_eq_some_iff.1 e1).1
    have hj : j < (es ++ [x]).length := (List.getElem?_eq_some_iff.1 e2).1
    simp at hi hj
    rcases Nat.lt_or_ge i es.length with a | a <;> rcases Nat.lt_or_ge j es.length with c | c
    · rw [List.getElem?_append_left a] at e1
      rw [List.getElem?_append_left c] at e2
      exact h.apart i j y z e1 e2 e
    · obtain rfl : j = es.length := by omega
      rw [List.getElem?_append_left a] at e1
      simp at e2
      subst e2
      exact absurd e (ha y (List.mem_of_getElem? e1))
    · obtain rfl : i = es.length := by omega
      rw [List.getElem?_append_left c] at e2
      simp at e1
      subst e1
      exact absurd e.symm (ha z (List.mem_of_getElem? e2))
    · omega
/-- The play's first world. -/
theorem Plx.start {w2 : World} (h : ShL W w2 S T O st) : Plx W (((w2.alloc (.cells #[.int .i64 0, .int .i64 0] 32)).alloc (.map #[] 0)).alloc (.cells #[.map (some (w2.heap.size + 1))] 30)) S T O st w2.heap.size 1 (w2.heap.size + 2) 1 [(0, 0)] [(w2.heap.size + 1, fun _ => none, [])] := by
  have hWB := h.bel.size
  have r5 := World.ownsRow_lit (base := W.heap.size) (e := 32) (size := 2) w2 #[.int .i64 0, .int .i64 0] 1 hWB (by unfold maxLen; omega) rfl
  have b1 : Below w2.heap.size w2 (w2.alloc (.cells #[.int .i64 0, .int .i64 0] 32)) := (Below.refl _ _).alloc (Nat.le_refl _) _
  have s1 : (w2.alloc (.cells #[.int .i64 0, .int .i64 0] 32)).heap.size = w2.heap.size + 1 := by simp
  generalize w2.alloc (.cells #[.int .i64 0, .int .i64 0] 32) = V1 at *
  have m2 := MapIs.made (P := Try.prog) (k := 3) V1
  have b2 : Below V1.heap.size V1 (V1.alloc (.map #[] 0)) := (Below.refl _ _).alloc (Nat.le_refl _) _
  have s2 : (V1.alloc (.map #[] 0)).heap.size = w2.heap.size + 2 := (show (V1.alloc (.map #[] 0)).heap.size = V1.heap.size + 1 from by simp).trans (by omega)
  generalize V1.alloc (.map #[] 0) = V2 at *
  have r6 := World.ownsRow_lit (base := W.heap.size) (e := 30) (size := 1) V2 #[.map (some (w2.heap.size + 1))] 1 (by omega) (by unfold maxLen; omega) rfl
  have b3 : Below V2.heap.size V2 (V2.alloc (.cells #[.map (some (w2.heap.size + 1))] 30)) := (Below.refl _ _).alloc (Nat.le_refl _) _
  generalize V2.alloc (.cells #[.map (some (w2.heap.size + 1))] 30) = V3 at *
  have b12 : Below V1.heap.size V1 V3 := b2.trans (b3.mono b2.size)
  have b02 : Below w2.heap.size w2 V3 := b1.trans (b12.mono b1.size)
  have oN : ∀ k, w2.heap.size ≤ k → Out O T k := fun k hk => h.tr.outOf hk
  rw [s2] at r6
  rw [s1] at m2
  refine ⟨h.up b02, rowN_off r5 (S := fun _ => False) (Off.of_below b12) (fun _ _ => id), r6, rfl, oN _ (Nat.le_refl _), oN _ (by omega), by omega, fun i r x e1 e2 => ?_, fun i j x y e1 e2 _ => ?_⟩
  · have hi : i = 0 := by have := (List.getElem?_eq_some_iff.1 e1).1; simp at this; omega
    subst hi
    simp at e1 e2
    subst e1
    subst e2
    refine ⟨⟨.inl ⟨rfl, fun _ => rfl⟩, ?_, Lst.nil, oN _ (by simp), by simp; omega, by simp⟩, by simp, by simp⟩
    unfold GMap
    rw [gmF_none]
    exact m2.off (S := fun _ => False) (Off.of_below b3) id
  · have hi := (List.getElem?_eq_some_iff.1 e1).1
    have hj := (List.getElem?_eq_some_iff.1 e2).1
    simp at hi hj
    omega
/-- An act's own copy. -/
structure AcB (V : World) (g : Nat) (op key : Int) (v : Value) (turn : Int) : Prop where
  c0 : V.cell? ⟨g, 0, none⟩ = some (.int .i64 op)
  c1 : V.cell? ⟨g, 1, none⟩ = some (.int .i64 key)
  c2 : V.cell? ⟨g, 2, none⟩ = some v
  c3 : V.cell? ⟨g, 3, none⟩ = some (.int .i64 turn)
theorem AcB.lt {g : Nat} {op key turn : Int} {v : Value} (h : AcB V g op key v turn) : g < V.heap.size := lt_of_cell h.c0
theorem AcB.off {P : Nat → Prop} {g : Nat} {op key turn : Int} {v : Value} (h : AcB V g op key v turn) (ho : Off P V V') (hg : ¬ P g) : AcB V' g op key v turn :=
  ⟨(ho.cell (p := ⟨g, 0, none⟩) h.lt hg).trans h.c0, (ho.cell (p := ⟨g, 1, none⟩) h.lt hg).trans h.c1, (ho.cell (p := ⟨g, 2, none⟩) h.lt hg).trans h.c2, (ho.cell (p := ⟨g, 3, none⟩) h.lt hg).trans h.c3⟩
theorem AcB.new (V : World) (op key turn : Int) (v : Value) (t : TypeId) : AcB (V.alloc (.cells #[.int .i64 op, .int .i64 key, v, .int .i64 turn] t)) V.heap.size op key v turn :=
  ⟨by simp [go_sem], by simp [go_sem], by simp [go_sem], by simp [go_sem]⟩
/-- The play so far. -/
structure PlI (W V : World) (S T : Nat) (O : Nat → Prop) (st : ShS × Int) (g5 c5 g6 c6 : Nat) (rs : List (Int × Int)) (es : List (Nat × Mp × Ps)) (k at_ N : Nat) : Prop where
  p : Plx W V S T O st g5 c5 g6 c6 rs es
  lt : at_ < es.length
  cnt : es.length ≤ N + 1
  sm : ∀ x ∈ es, x.2.2.length ≤ N
  rdy : shK.Rdy st.1 k
  full : st.1.full < 0
  pu : st.2 = (st.1.L.length : Int)
section
variable {k at_ N : Nat}
theorem PlI.up (h : PlI W V S T O st g5 c5 g6 c6 rs es k at_ N) (hb : Below V.heap.size V V') : PlI W V' S T O st g5 c5 g6 c6 rs es k at_ N := ⟨h.p.up hb, h.lt, h.cnt, h.sm, h.rdy, h.full, h.pu⟩
/-- A round's own boxes. -/
theorem PlI.boxes (h : PlI W V S T O st g5 c5 g6 c6 rs es k at_ N) (op key turn ra rb : Int) (v : Value) (t1 t2 : TypeId) : PlI W ((V.alloc (.cells #[.int .i64 op, .int .i64 key, v, .int .i64 turn] t1)).alloc (.cells #[.int .i64 ra, .int .i64 rb] t2)) S T O st g5 c5 g6 c6 rs es k at_ N ∧
    AcB ((V.alloc (.cells #[.int .i64 op, .int .i64 key, v, .int .i64 turn] t1)).alloc (.cells #[.int .i64 ra, .int .i64 rb] t2)) V.heap.size op key v turn ∧ BoxA ((V.alloc (.cells #[.int .i64 op, .int .i64 key, v, .int .i64 turn] t1)).alloc (.cells #[.int .i64 ra, .int .i64 rb] t2)) (V.heap.size + 1) (ra, rb) ∧ Out O T V.heap.size ∧ Out O T (V.heap.size + 1) := by
  have b1 : Below V.heap.size V (V.alloc (.cells #[.int .i64 op, .int .i64 key, v, .int .i64 turn] t1)) := (Below.refl _ _).alloc (Nat.le_refl _) _
  have a1 := AcB.new V op key turn v t1
  have s1 : (V.alloc (.cells #[.int .i64 op, .int .i64 key, v, .int .i64 turn] t1)).heap.size = V.heap.size + 1 := by simp
  generalize V.alloc (.cells #[.int .i64 op, .int .i64 key, v, .int .i64 turn] t1) = V1 at *
  have b2 : Below V1.heap.size V1 (V1.alloc (.cells #[.int .i64 ra, .int .i64 rb] t2)) := (Below.refl _ _).alloc (Nat.le_refl _) _
  have x2 := BoxA.new V1 t2 (ra, rb)
  rw [s1] at x2
  exact ⟨(h.up b1).up b2, a1.off (P := fun _ => False) (Off.of_below b2) id, x2, h.p.l.tr.outOf (Nat.le_refl _), h.p.l.tr.outOf (by omega)⟩
end
end

section
variable {W V V' : World} {S T : Nat} {O O' : Nat → Prop} {st st' : ShS × Int} {g5 c5 g6 c6 : Nat} {rs : List (Int × Int)} {es : List (Nat × Mp × Ps)} {k k' at_ at' N N' : Nat}
theorem PlI.next (h : PlI W V S T O st g5 c5 g6 c6 rs es k at_ N) (hk : k' ≤ k) (hN : N ≤ N') (ha : at' < es.length) : PlI W V S T O st g5 c5 g6 c6 rs es k' at' N' :=
  ⟨h.p, ha, by have := h.cnt; omega, fun x hx => Nat.le_trans (h.sm x hx) hN, shK_good.mono _ _ _ h.rdy hk, h.full, h.pu⟩
theorem aft_pu {j : Nat} (h : Aft shP j st st') (hp : st.2 = (st.1.L.length : Int)) (hr : shK.Rdy st.1 7) (hj : j ≤ 7) : st'.2 = (st'.1.L.length : Int) ∧ st'.2 = st.2 + j := by
  have h1 := h.pu
  have h2 : st'.1.L.length = st.1.L.length + j := h.cnt
  have h3 := hr.1
  rw [incN_small j st.2 (by omega) (by omega)] at h1
  exact ⟨by rw [h1, h2]; omega, h1⟩
/-- A Set or a Delete. -/
theorem PlI.set {M : Nat} {G : Rdr → Int × Int → Prop} {r' : Int × Int} {e : Ending} {w1 : World} (h : PlI W V S T O st g5 c5 g6 c6 rs es (k + 7) at_ N) (hb : Below V.heap.size V w1) (hM : M ≤ 7) (q : SetOk W w1 V' S T O O' st st' k M G r' e) :
    PlI W V' S T O' st' g5 c5 g6 c6 rs es k at_ N ∧ ∃ j : Nat, j ≤ M ∧ st'.2 = st.2 + j := by
  obtain ⟨j, hj, ha⟩ := q.aft
  have hp := aft_pu ha h.pu (shK_good.mono _ _ _ h.rdy (by omega)) (by omega)
  exact ⟨⟨h.p.set hb q, h.lt, h.cnt, h.sm, q.rdy, q.full, hp.1⟩, j, hj, hp.2⟩
theorem PlI.get {s' : ShS} (h : PlI W V S T O st g5 c5 g6 c6 rs es k at_ N) (q : GetOk W V V' S T O st s') : PlI W V' S T O (s', st.2) g5 c5 g6 c6 rs es k at_ N := by
  have h1 : s'.L.length = st.1.L.length := q.aft.cnt
  have h2 := q.aft.room
  refine ⟨h.p.get q, h.lt, h.cnt, h.sm, q.rdy _ h.rdy, ?_, by rw [h1]; exact h.pu⟩
  rw [if_pos (show shP.room st.1 < 0 from h.full)] at h2
  rw [show s'.full = st.1.full from h2]
  exact h.full
theorem PlI.same {i : Nat} {x : Nat × Mp × Ps} {s' : ShS} (h : PlI W V S T O st g5 c5 g6 c6 rs es k at_ N) (hx : es[i]? = some x) (q : SmOk W V S T O st x.1 x.2.1 x.2.2.length V' s') : PlI W V' S T O (s', st.2) g5 c5 g6 c6 rs es k at_ N := by
  have h1 : s'.L.length = st.1.L.length := q.aft.cnt
  have h2 := q.aft.room
  refine ⟨h.p.sm hx q, h.lt, h.cnt, h.sm, q.rdy _ h.rdy, ?_, by rw [h1]; exact h.pu⟩
  rw [if_pos (show shP.room st.1 < 0 from h.full)] at h2
  rw [show s'.full = st.1.full from h2]
  exact h.full
/-- Another block alone has changed. -/
theorem PlI.offN {b : Nat} (h : PlI W V S T O st g5 c5 g6 c6 rs es k at_ N) (ho : Off (· = b) V V') (hO : Out O T b) (hge : W.heap.size ≤ b) (h5 : b ≠ g5) (h6 : b ≠ g6) (hm : ∀ y ∈ es, y.1 ≠ b) : PlI W V' S T O st g5 c5 g6 c6 rs es k at_ N :=
  ⟨h.p.off ho (h.p.l.offW ho (fun k e => by rw [e]; exact ⟨hO, hge⟩)) (fun _ => .inl) (SubR.refl _) (fun e => h5 e.symm) (fun e => h6 e.symm) hm, h.lt, h.cnt, h.sm, h.rdy, h.full, h.pu⟩
/-- A new block lies apart from all the play's. -/
theorem Plx.fresh (h : Plx W V S T O st g5 c5 g6 c6 rs es) : Out O T V.heap.size ∧ W.heap.size ≤ V.heap.size ∧ V.heap.size ≠ g5 ∧ V.heap.size ≠ g6 ∧ ∀ y ∈ es, y.1 ≠ V.heap.size :=
  ⟨h.l.tr.outOf (Nat.le_refl _), h.l.bel.size, by have := h.lt5.2; omega, by have := h.lt6.2; omega, fun y hy => by have := (h.entO hy).2.2.1; omega⟩
/-- A refused Set or Delete. -/
def BadOk (W w w' : World) (S T : Nat) (O : Nat → Prop) (st : ShS × Int) (g5 c5 g6 c6 : Nat) (rs : List (Int × Int)) (es : List (Nat × Mp × Ps)) (k at_ N : Nat) (er : Int) (e : Ending) (O' : Nat → Prop) : Prop :=
  e = .returned (.tuple #[.agg #[.int .i64 0, .int .i64 0], .int .i64 er]) ∧ PlI W w' S T O' st g5 c5 g6 c6 rs es k at_ N ∧ Off (OT O T) w w' ∧ ∀ k, O' k → O k ∨ w.heap.size ≤ k
theorem PlI.bad {er : Int} {e : Ending} {w' : World} (h : PlI W V S T O st g5 c5 g6 c6 rs es k at_ N) (q : TrPost (shM S) V T O ((st.1, st.2), (0, 0), er) e w') : ∃ O', BadOk W V w' S T O st g5 c5 g6 c6 rs es k at_ N er e O' := by
  obtain ⟨O', h1, h2, h3, h4⟩ := q
  refine ⟨O', h1, ⟨?_, h.lt, h.cnt, h.sm, h.rdy, h.full, h.pu⟩, h3, h4⟩
  have hl := h.p.l
  have hO2 : ∀ k', O' k' → W.heap.size ≤ k' := fun k' hk => (h4 k' hk).elim (hl.hO k') (fun e => Nat.le_trans hl.bel.size e)
  have hl' : ShL W w' S T O' st := ⟨h2, hO2, hl.hT, hl.inn, hl.bel.trans (h3.below (fun b hb => hb.elim (hl.hO b) (fun e => e ▸ hl.hT)) hl.bel.size)⟩
  exact h.p.off h3 hl' h4 (SubR.refl _) (fun e => e.elim h.p.o5.1 h.p.o5.2) (fun e => e.elim h.p.o6.1 h.p.o6.2) (fun x hx e => e.elim (h.p.entO hx).1.1 (h.p.entO hx).1.2)
/-- One more root. -/
theorem PlI.push (h : PlI W V S T O st g5 c5 g6 c6 rs es k at_ N) {r : Int × Int} {x : Nat × Mp × Ps} (hn : Ent1 W V O T st r x) (h5 : x.1 ≠ g5) (h6 : x.1 ≠ g6) (ha : ∀ y ∈ es, y.1 ≠ x.1) (hs : x.2.2.length ≤ N + 1) (hN : N ≤ 500) (t5 t6 : TypeId) :
    ∃ g5' c5' w5, (Builtin.append_ #[48, 48] t5 #[.slice (some ⟨g5, 0, none⟩) rs.length c5, .slice (some ⟨V.heap.size, 0, none⟩) 1 1]).run Try.prog (V.alloc (.cells #[.int .i64 r.1, .int .i64 r.2] 32)) = .ok (.slice (some ⟨g5', 0, none⟩) (rs.length + 1) c5') w5 ∧
      ∃ g6' c6' w6, (Builtin.append_ #[49, 49] t6 #[.slice (some ⟨g6, 0, none⟩) es.length c6, .slice (some ⟨w5.heap.size, 0, none⟩) 1 1]).run Try.prog (w5.alloc (.cells #[.map (some x.1)] 30)) = .ok (.slice (some ⟨g6', 0, none⟩) (es.length + 1) c6') w6 ∧
        PlI W w6 S T O st g5' c5' g6' c6' (rs ++ [r]) (es ++ [x]) k rs.length (N + 1) ∧ Off (fun k => k = g5 ∨ k = g6) V w6 := by
  obtain ⟨g5', c5', w5, h1, g6', c6', w6, h2, h3, h4⟩ := h.p.push hn h5 h6 ha (by have := h.cnt; omega) t5 t6
  refine ⟨g5', c5', w5, h1, g6', c6', w6, h2, ⟨h3, by rw [List.length_append, h.p.len]; simp, by rw [List.length_append]; have := h.cnt; simp; omega, fun y hy => ?_, h.rdy, h.full, h.pu⟩, h4⟩
  rcases List.mem_append.1 hy with hy | hy
  · have := h.sm y hy; omega
  · obtain rfl := List.mem_singleton.1 hy
    exact hs
end
theorem PlI.atR {W V : World} {S T : Nat} {O : Nat → Prop} {st : ShS × Int} {g5 c5 g6 c6 : Nat} {rs : List (Int × Int)} {es : List (Nat × Mp × Ps)} {k at_ N : Nat} (h : PlI W V S T O st g5 c5 g6 c6 rs es k at_ N) {i : Nat} (hi : i < es.length) : ∃ r x, rs[i]? = some r ∧ es[i]? = some x ∧ Ent1 W V O T st r x ∧ i < rs.length := by
  have hr : i < rs.length := by have := h.p.len; omega
  exact ⟨_, _, List.getElem?_eq_getElem hr, List.getElem?_eq_getElem hi, (h.p.ent i _ _ (List.getElem?_eq_getElem hr) (List.getElem?_eq_getElem hi)).1, hr⟩
theorem ShL.rows {W w : World} {S T : Nat} {O : Nat → Prop} {st : ShS × Int} (h : ShL W w S T O st) : ∃ A c, w.cell? ⟨S, 0, none⟩ = some (.slice A st.1.L.length c) := by
  obtain ⟨rv, vs, ov, hi, _⟩ := (show ShAt S w O st.1 from h.tr.at_)
  have h0 := hi.c0
  rcases hi.row.2 with ⟨e, e2⟩ | ⟨g, cap, cur, e, _⟩
  · rw [e] at h0
    exact ⟨none, 0, by rw [← hi.len, e2]; exact h0⟩
  · rw [e] at h0
    exact ⟨_, _, by rw [← hi.len]; exact h0⟩
theorem gl_str {w : World} {v : Value} {L : Bytes} (h : SlB w v L) : (convert 23 9 v).run Try.prog w = .ok (.string (strB L)) w := by
  obtain ⟨A, n, c, rfl, _, hs⟩ := h
  exact hs.str c
/-- A turn, without its sign. -/
theorem turn_abs {t : Int} {n : Nat} (hn : 0 < n) : ∃ q : Nat, q < n ∧ ((0 ≤ t.tmod n ∧ t.tmod n = (q : Int)) ∨ (t.tmod n < 0 ∧ 0 - t.tmod n = (q : Int))) := by
  have h1 := Int.tmod_lt_of_pos t (b := (n : Int)) (by omega)
  have h2 : -(n : Int) < t.tmod n := by
    have := Int.tmod_lt_of_pos (-t) (b := (n : Int)) (by omega)
    rw [Int.neg_tmod] at this
    omega
  by_cases h : 0 ≤ t.tmod n
  · exact ⟨(t.tmod n).toNat, by omega, .inl ⟨h, by omega⟩⟩
  · exact ⟨(0 - t.tmod n).toNat, by omega, .inr ⟨by omega, by omega⟩⟩
open Classical in
theorem filter_len {m : Mp} {ps : Ps} (h : Lst m ps) (k : Nat) : (ps.filter fun x => decide (x.1 ≠ k)).length = if (m k).isSome then ps.length - 1 else ps.length := by
  have hu := h.up
  have hm : ∀ v, (k, v) ∈ ps ↔ m k = some v := fun v => h.mem k v
  have key : ∀ (qs : Ps), qs.Pairwise (fun a b => a.1 < b.1) → (qs.filter fun x => decide (x.1 ≠ k)).length = if (∃ v, (k, v) ∈ qs) then qs.length - 1 else qs.length := by
    intro qs
    induction qs with
    | nil => intro _; simp
    | cons y qs ih =>
      intro hp
      obtain ⟨h1, h2⟩ := List.pairwise_cons.1 hp
      have ih2 := ih h2
      by_cases e : y.1 = k
      · have hno : ¬ ∃ v, (k, v) ∈ qs := fun ⟨v, hv⟩ => by have := h1 _ hv; simp only at this; omega
        rw [if_neg hno] at ih2
        rw [List.filter_cons, if_neg (by simp [e]), ih2, if_pos ⟨y.2, by rw [← e]; exact List.mem_cons_self ..⟩]
        simp
      · rw [List.filter_cons, if_pos (by simpa using e), List.length_cons, ih2]
        have he : (∃ v, (k, v) ∈ y :: qs) ↔ ∃ v, (k, v) ∈ qs := by
          constructor
          · rintro ⟨v, hv⟩
            rcases List.mem_cons.1 hv with hv | hv
            · exact absurd (by rw [← hv]) e
            · exact ⟨v, hv⟩
          · rintro ⟨v, hv⟩
            exact ⟨v, List.mem_cons_of_mem _ hv⟩
        by_cases hq : ∃ v, (k, v) ∈ qs
        · rw [if_pos hq, if_pos (he.2 hq)]
          obtain ⟨v, hv⟩ := hq
          have := List.length_pos_of_mem hv
          simp only [List.length_cons]
          omega
        · rw [if_neg hq, if_neg (fun h => hq (he.1 h))]
          simp
  rw [key ps hu]
  by_cases hk : (m k).isSome = true
  · rw [if_pos hk, if_pos]
    obtain ⟨v, hv⟩ := Option.isSome_iff_exists.1 hk
    exact ⟨v, (hm v).2 hv⟩
  · rw [if_neg hk, if_neg]
    rintro ⟨v, hv⟩
    exact hk (by rw [(hm v).1 hv]; rfl)
theorem GMap.del {w : World} {b c : Nat} {m : Mp} (h : GMap w b m c) {key : Nat} (hk : key < 16777216) (ty : TypeId) :
    ∃ w', (Builtin.delete_ #[30, 3] ty #[.map (some b), .int .i64 (key : Nat)]).run Try.prog w = .ok (.tuple #[]) w' ∧ GMap w' b (upd m key none) (if (m key).isSome then c - 1 else c) ∧ Off (· = b) w w' := by
  obtain ⟨w', h1, h2, h3⟩ := MapIs.del h intKeyed Try.underlying30 (key := .int .i64 (key : Nat)) (keyOf_int_mk Try.underlying3 (int_wf (by omega))) ty
  rw [gmF_del] at h2
  refine ⟨w', h1, ?_, h3⟩
  have e : (gmF m (.int .i64 (key : Nat))).isSome = (m key).isSome := by simp [gmF, intOfV, mI_nat]
  rw [e] at h2
  exact h2
/-- The map of a Set, beside. -/
theorem ent_put {W V : World} {O : Nat → Prop} {T : Nat} {st : ShS × Int} {r : Int × Int} {b : Nat} {m : Mp} {ps : Ps} (hm : GMap V b m ps.length) (hl : Lst m ps) {key : Nat} (hk : key < 16777216) (L : Bytes) (ht : Tells (shRd st.1.L) 0 0 r (upd m key (some L))) (hO : Out O T b) (hge : W.heap.size ≤ b) (hsm : ps.length ≤ 1000) :
    ∃ w', (Instr.mapUpdate 30 (.map (some b)) (.int .i64 (key : Nat)) (.string (strB L))).run Try.prog V = .ok () w' ∧ Off (· = b) V w' ∧ Ent1 W w' O T st r (b, upd m key (some L), insP key L ps) ∧ (insP key L ps).length ≤ ps.length + 1 := by
  obtain ⟨w', h1, h2, h3⟩ := hm.put hk L
  have hlen := hl.set_len key L
  have hle : (insP key L ps).length ≤ ps.length + 1 := by rw [hlen]; split <;> omega
  refine ⟨w', h1, h3, ⟨.inr ht, ?_, hl.set key L, hO, hge, by show (insP key L ps).length ≤ _; omega⟩, hle⟩
  rw [hlen]
  exact h2
theorem ent_del {W V : World} {O : Nat → Prop} {T : Nat} {st : ShS × Int} {r : Int × Int} {b : Nat} {m : Mp} {ps : Ps} (hm : GMap V b m ps.length) (hl : Lst m ps) {key : Nat} (hk : key < 16777216) (ty : TypeId) (ht : TellsR (shRd st.1.L) r (upd m key none)) (hO : Out O T b) (hge : W.heap.size ≤ b) (hsm : ps.length ≤ 1000) :
    ∃ w', (Builtin.delete_ #[30, 3] ty #[.map (some b), .int .i64 (key : Nat)]).run Try.prog V = .ok (.tuple #[]) w' ∧ Off (· = b) V w' ∧ Ent1 W w' O T st r (b, upd m key none, ps.filter fun x => decide (x.1 ≠ key)) ∧ (ps.filter fun x => decide (x.1 ≠ key)).length ≤ ps.length := by
  obtain ⟨w', h1, h2, h3⟩ := hm.del hk ty
  have hlen := filter_len hl key
  have hle : (ps.filter fun x => decide (x.1 ≠ key)).length ≤ ps.length := List.length_filter_le _ _
  refine ⟨w', h1, h3, ⟨ht, ?_, hl.del key, hO, hge, by show (ps.filter fun x => decide (x.1 ≠ key)).length ≤ _; omega⟩, hle⟩
  show GMap w' b (upd m key none) (ps.filter fun x => decide (x.1 ≠ key)).length
  rw [hlen]
  exact h2
end Go.Proofs.Ytbmlggieifaniaa
