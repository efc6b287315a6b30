/- radix's laws: a map of values beside; what Same does, plainly. radix's laws: roots in boxes, what pairs set tell. -/
import Derived.Test.YtgkdggidgaifhaaMA
import Derived.Test.YtgkdggidgaifhaaMB
import Derived.Laws.IdiomRangeMap
namespace Go.Proofs.Ytgkdggidgaifhaa
open Go.RowKit Go.Maps
set_option linter.unusedVariables false
set_option linter.unusedSimpArgs false

def intOfV : Value → Option Int
  | .int .i64 k => some k
  | _ => none
theorem intOfV_inv {v : Value} {k : Int} (h : intOfV v = some k) : v = .int .i64 k := by
  unfold intOfV at h
  split at h
  · cases h; rfl
  · cases h
/-- A key as the law has it. -/
def mI (m : Mp) (k : Int) : Option Bytes := if 0 ≤ k then m k.toNat else none
theorem mI_nat (m : Mp) (k : Nat) : mI m (k : Int) = m k := by unfold mI; rw [if_pos (by omega)]; simp
def gmF (m : Mp) (v : Value) : Option Value := (intOfV v).bind fun k => (mI m k).map fun L => .string (strB L)
theorem gmF_put (m : Mp) (k : Nat) (L : Bytes) : putK (gmF m) (.int .i64 (k : Nat)) (.string (strB L)) = gmF (upd m k (some L)) := by
  funext v
  unfold putK
  split
  · rename_i h; subst h; simp [gmF, intOfV, mI_nat, upd]
  · rename_i h
    unfold gmF
    cases hn : intOfV v with
    | none => rfl
    | some j =>
      have hjk : j ≠ (k : Int) := fun e => h (by rw [intOfV_inv hn, e])
      simp only [Option.bind_some]
      congr 1
      unfold mI
      split
      · rw [upd_other _ _ _ (by omega)]
      · rfl
theorem gmF_del (m : Mp) (k : Nat) : delK (gmF m) (.int .i64 (k : Nat)) = gmF (upd m k none) := by
  funext v
  unfold delK
  split
  · rename_i h; subst h; simp [gmF, intOfV, mI_nat, upd]
  · rename_i h
    unfold gmF
    cases hn : intOfV v with
    | none => rfl
    | some j =>
      have hjk : j ≠ (k : Int) := fun e => h (by rw [intOfV_inv hn, e])
      simp only [Option.bind_some]
      congr 1
      unfold mI
      split
      · rw [upd_other _ _ _ (by omega)]
      · rfl
theorem gmF_none : gmF (fun _ => none) = fun _ => none := by
  funext v
  unfold gmF
  cases intOfV v with
  | none => rfl
  | some k => simp [mI]
theorem intKeyed : Keyed Try.prog 3 := int_keyed Try.underlying3
/-- A map of the law's. -/
def GMap (w : World) (b : Nat) (m : Mp) (c : Nat) : Prop := MapIs Try.prog 3 w b (gmF m) c
theorem GMap.off {S : Nat → Prop} {w w' : World} {b c : Nat} {m : Mp} (h : GMap w b m c) (ho : Off S w w') (hs : ¬ S b) : GMap w' b m c := MapIs.off h ho hs
theorem zeroStr (w : World) : (zeroValue 9).run Try.prog w = .ok (.string ⟨#[]⟩) w := by kernel_rfl
theorem int_wf {k : Int} (h : -9223372036854775808 ≤ k ∧ k ≤ 9223372036854775807) : (Lit.int .i64 k).wf = true := by simpa [Lit.wf, IntKind.min, IntKind.max, IntKind.signed, IntKind.bits] using h
theorem GMap.look {w : World} {b c : Nat} {m : Mp} (h : GMap w b m c) {key : Int} (hk : -9223372036854775808 ≤ key ∧ key ≤ 9223372036854775807) :
    (Instr.lookup 31 (.map (some b)) (.int .i64 key) true).run Try.prog w = .ok (.tuple #[.string (strB ((mI m key).getD [])), .bool (mI m key).isSome]) w := by
  rw [MapIs.look h intKeyed Try.underlying31 (zeroStr w) (keyOf_int_mk Try.underlying3 (int_wf hk)) true]
  cases hg : mI m key <;> simp [gmF, intOfV, hg, strB]
theorem GMap.len {w : World} {b c : Nat} {m : Mp} (h : GMap w b m c) (ty : TypeId) : (Builtin.len_ #[31] ty #[.map (some b)]).run Try.prog w = .ok (.int .i64 (c : Nat)) w := MapIs.len h Try.underlying31 ty
theorem GMap.put {w : World} {b c : Nat} {m : Mp} (h : GMap w b m c) {key : Nat} (hk : key < 16777216) (L : Bytes) :
    ∃ w', (Instr.mapUpdate 31 (.map (some b)) (.int .i64 (key : Nat)) (.string (strB L))).run Try.prog w = .ok () w' ∧ GMap w' b (upd m key (some L)) (if (m key).isSome then c else c + 1) ∧ Off (· = b) w w' := by
  obtain ⟨w', h1, h2, h3⟩ := MapIs.put h intKeyed Try.underlying31 (key := .int .i64 (key : Nat)) (val := .string (strB L)) (keyOf_int_mk Try.underlying3 (int_wf (by omega)))
  rw [gmF_put] at h2
  refine ⟨w', h1, ?_, h3⟩
  have e : (gmF m (.int .i64 (key : Nat))).isSome = (m key).isSome := by simp [gmF, intOfV, mI_nat]
  rw [e] at h2
  exact h2

/-! ### Same, plainly -/
abbrev Sm := Option (Int × Int)
def smF (m : Mp) : Sm → Nat → Bytes → Sm × Bool
  | none, _, _ => (none, false)
  | some (last, k), key, v => if (key : Int) ≤ last ∨ m key ≠ some v then (none, false) else (some ((key : Int), inc64 k), true)
def smA : Sm → Bool := Option.isSome
theorem smF_al (m : Mp) (x : Sm) (key : Nat) (v : Bytes) (h : smA x = true) : (smF m x key v).2 = smA (smF m x key v).1 := by
  cases x with
  | none => cases h
  | some y =>
    obtain ⟨last, k⟩ := y
    simp only [smF]
    split <;> rfl
theorem foldU_same (m : Mp) : ∀ (ps : Ps) (last k : Int), ps.Pairwise (fun a b => a.1 < b.1) → (∀ x ∈ ps, last < (x.1 : Int)) → (∀ x ∈ ps, m x.1 = some x.2) → ∃ last', foldU (smF m) (some (last, k)) ps = (some (last', incN k ps.length), true)
  | [], last, k, _, _, _ => ⟨last, rfl⟩
  | (key, v) :: ps, last, k, h1, h2, h3 => by
    have a := List.pairwise_cons.1 h1
    have e : smF m (some (last, k)) key v = (some ((key : Int), inc64 k), true) := by
      simp only [smF]
      rw [if_neg]
      rintro (e | e)
      · have := h2 (key, v) (List.mem_cons_self ..)
        simp only at this
        omega
      · exact e (h3 (key, v) (List.mem_cons_self ..))
    obtain ⟨last', ih⟩ := foldU_same m ps (key : Int) (inc64 k) a.2 (fun x hx => by have := a.1 x hx; simp only at this; omega) (fun x hx => h3 x (List.mem_cons_of_mem _ hx))
    refine ⟨last', ?_⟩
    have e2 : foldU (smF m) (some (last, k)) ((key, v) :: ps) = foldU (smF m) (some ((key : Int), inc64 k)) ps := by
      show (if (smF m (some (last, k)) key v).2 then foldU (smF m) (smF m (some (last, k)) key v).1 ps else ((smF m (some (last, k)) key v).1, false)) = _
      rw [e]
      rfl
    rw [e2, ih, List.length_cons]
    have e3 : inc64 k = incN k 1 := rfl
    rw [e3, incN_add, Nat.add_comm]
theorem Lst.same {m : Mp} {ps : Ps} (h : Lst m ps) (hl : ps.length ≤ 149796) : ∃ last', foldU (smF m) (some (-1, 0)) ps = (some (last', (ps.length : Int)), true) := by
  obtain ⟨last', e⟩ := foldU_same m ps (-1) 0 h.up (fun x _ => by omega) (fun x hx => (h.mem x.1 x.2).1 hx)
  exact ⟨last', by rw [e, incN_small _ _ (by omega) (by omega)]; simp⟩
end Go.Proofs.Ytgkdggidgaifhaa
namespace Go.Proofs.Ytgkdggidgaifhaa
open Go.RowKit
set_option linter.unusedVariables false
set_option linter.unusedSimpArgs false

def mpU (b : Nat → PArg) : Nat → Mp
  | 0 => fun _ => none
  | j + 1 => upd (mpU b j) (b j).key.toNat (some (b j).L)
def mpD (b : Nat → PArg) (n t : Nat) : Nat → Mp
  | 0 => mpU b n
  | j + 1 => upd (mpD b n t j) (b ((j + t) % n)).key.toNat none
theorem mpU_key (b : Nat → PArg) : ∀ (j k : Nat), mpU b j k ≠ none → ∃ i, i < j ∧ (b i).key.toNat = k
  | 0, k, h => absurd rfl h
  | j + 1, k, h => by
    unfold mpU at h
    by_cases e : k = (b j).key.toNat
    · exact ⟨j, by omega, e.symm⟩
    · rw [upd_other _ _ _ e] at h
      obtain ⟨i, hi, h2⟩ := mpU_key b j k h
      exact ⟨i, by omega, h2⟩
theorem mpD_none (b : Nat → PArg) (n t : Nat) : ∀ (j k : Nat), (mpU b n k = none ∨ ∃ i, i < j ∧ (b ((i + t) % n)).key.toNat = k) → mpD b n t j k = none
  | 0, k, h => by
    rcases h with h | ⟨i, hi, _⟩
    · exact h
    · omega
  | j + 1, k, h => by
    unfold mpD
    by_cases e : k = (b ((j + t) % n)).key.toNat
    · rw [e, upd_same]
    · rw [upd_other _ _ _ e]
      refine mpD_none b n t j k ?_
      rcases h with h | ⟨i, hi, h2⟩
      · exact .inl h
      · refine .inr ⟨i, ?_, h2⟩
        rcases Nat.lt_or_ge i j with g | g
        · exact g
        · exfalso
          have : i = j := by omega
          subst this
          exact e h2.symm
theorem mpD_end (b : Nat → PArg) {n t : Nat} (hn : 0 < n) (ht : t < n) (k : Nat) : mpD b n t n k = none := by
  refine mpD_none b n t n k ?_
  by_cases h : mpU b n k = none
  · exact .inl h
  · obtain ⟨i, hi, h2⟩ := mpU_key b n k h
    refine .inr ⟨(i + (n - t)) % n, Nat.mod_lt _ hn, ?_⟩
    rw [Nat.mod_add_mod, show i + (n - t) + t = i + n by omega, Nat.add_mod_right, Nat.mod_eq_of_lt hi]
    exact h2
/-- A law's tree, the box of its root. -/
structure RtAt (W V : World) (S T g : Nat) (O : Nat → Prop) (st : ShS × Int) (r : Int × Int) : Prop where
  l : ShL W V S T O st
  box : BoxA V g r
  out : Out O T g
  ge : W.heap.size ≤ g
section
variable {W w w' V : World} {S T g g' : Nat} {O O' : Nat → Prop} {st st' : ShS × Int} {r r' : Int × Int} {n N : Nat} {G : Rdr → Int × Int → Prop} {e : Ending}
theorem RtAt.up (h : RtAt W w S T g O st r) (hb : Below w.heap.size w w') : RtAt W w' S T g O st r := ⟨h.l.up hb, h.box.off (S := fun _ => False) (Off.of_below hb) id, h.out, h.ge⟩
theorem ShL.offW {P : Nat → Prop} (h : ShL W w S T O st) (ho : Off P w w') (hP : ∀ k, P k → Out O T k ∧ W.heap.size ≤ k) : ShL W w' S T O st :=
  ⟨h.tr.off ho (fun k e => (hP k e).1.1) (fun e => (hP T e).1.2 rfl), h.hO, h.hT, h.inn, h.bel.trans (ho.below (fun k e => (hP k e).2) h.bel.size)⟩
/-- Behind a Set or a Delete: the tree, the elder box. -/
theorem SetOk.rt (h : RtAt W w S T g O st r) {w1 : World} (hb : Below w.heap.size w w1) (k : SetOk W w1 w' S T O O' st st' n N G r' e) : RtAt W w' S T g O' st' r :=
  ⟨k.l, (h.up hb).box.off k.off (fun e => e.elim h.out.1 h.out.2), out_next h.out k.hO (Nat.lt_of_lt_of_le h.box.lt hb.size), h.ge⟩
/-- The answer goes into a new box. -/
theorem RtAt.boxA (h : RtAt W w' S T g O' st' r) (r' : Int × Int) (t : TypeId) : RtAt W (w'.alloc (.cells #[.int .i64 r'.1, .int .i64 r'.2] t)) S T g O' st' r ∧ RtAt W (w'.alloc (.cells #[.int .i64 r'.1, .int .i64 r'.2] t)) S T w'.heap.size O' st' r' :=
  ⟨h.up ((Below.refl _ _).alloc (Nat.le_refl _) _), ⟨(h.l.box r' t).1, (h.l.box r' t).2.1, (h.l.box r' t).2.2, h.l.bel.size⟩⟩
/-- Into a box that lay there. -/
theorem RtAt.boxB (h : RtAt W w' S T g O' st' r) {r0 : Int × Int} (h2 : BoxA w' g' r0) (o2 : Out O' T g') (hg : W.heap.size ≤ g') (hne : g' ≠ g) (r' : Int × Int) :
    RtAt W ((w'.setCell ⟨g', 0, none⟩ (.int .i64 r'.1)).setCell ⟨g', 1, none⟩ (.int .i64 r'.2)) S T g O' st' r ∧ RtAt W ((w'.setCell ⟨g', 0, none⟩ (.int .i64 r'.1)).setCell ⟨g', 1, none⟩ (.int .i64 r'.2)) S T g' O' st' r' := by
  obtain ⟨e1, e2⟩ := h2.set r'
  have hl := h.l.offW e2 (fun k e => by cases e; exact ⟨o2, hg⟩)
  exact ⟨⟨hl, h.box.off e2 (fun e => hne e.symm), h.out, h.ge⟩, ⟨hl, e1, o2, hg⟩⟩
theorem bel0 (w : World) (r : Int × Int) (t : TypeId) : Below w.heap.size w (w.alloc (.cells #[.int .i64 r.1, .int .i64 r.2] t)).drew ∧ Below w.heap.size w w.drew ∧ BoxA (w.alloc (.cells #[.int .i64 r.1, .int .i64 r.2] t)).drew w.heap.size r :=
  ⟨((Below.refl _ _).alloc (Nat.le_refl _) _).drew, (Below.refl _ _).drew, (BoxA.new w t r).off (S := fun _ => False) ((Off.refl _ _).drew) id⟩
end
theorem SetOk.box0 {W w w' : World} {S T : Nat} {O O' : Nat → Prop} {st st' : ShS × Int} {r' : Int × Int} {n N : Nat} {G : Rdr → Int × Int → Prop} {e : Ending} {t : TypeId} (h : ShL W w S T O st) (k : SetOk W (w.alloc (.cells #[.int .i64 0, .int .i64 0] t)).drew w' S T O O' st st' n N G r' e) : BoxA w' w.heap.size (0, 0) ∧ Out O' T w.heap.size := by
  have hb := (bel0 w (0, 0) t).2.2
  have ho : Out O T w.heap.size := h.tr.outOf (Nat.le_refl _)
  exact ⟨hb.off k.off (fun e => e.elim ho.1 ho.2), out_next ho k.hO hb.lt⟩
theorem PArg.low {W : World} {A : Option Addr} {n c : Nat} {L : Bytes} (h : SBy W A n L) : VIn (fun b => b < W.heap.size) (.slice A n c) := fun b o n' c' e h0 => by
  cases e
  obtain ⟨g', o', e', hg', _⟩ := h.2 h0
  cases e'
  exact hg'
theorem tells_empty {rd : Rdr} {r : Int × Int} {m : Mp} (h : TellsR rd r m) (hm : ∀ k, m k = none) : r = (0, 0) := by
  rcases h with h | h
  · exact h.1
  · obtain ⟨k, hk⟩ := h.ex
    exact absurd (hm k) hk
/-- A turn: what is left of it. -/
theorem turn_of {t : Int} {n : Nat} (hn : 0 < n) : ∃ q : Nat, q < n ∧ ((0 ≤ t.tmod n ∧ t.tmod n = (q : Int)) ∨ (t.tmod n < 0 ∧ t.tmod n + n = (q : Int))) := by
  have h1 := Int.tmod_lt_of_pos t (b := (n : Int)) (by omega)
  have h2 : -(n : Int) < t.tmod n := by
    have := Int.tmod_lt_of_pos (-t) (b := (n : Int)) (by omega)
    rw [Int.neg_tmod] at this
    omega
  by_cases h : 0 ≤ t.tmod n
  · exact ⟨(t.tmod n).toNat, by omega, .inl ⟨h, by omega⟩⟩
  · exact ⟨(t.tmod n + n).toNat, by omega, .inr ⟨by omega, by omega⟩⟩
end Go.Proofs.Ytgkdggidgaifhaa
