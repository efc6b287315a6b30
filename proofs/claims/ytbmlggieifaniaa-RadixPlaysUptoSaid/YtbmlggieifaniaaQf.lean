/- radix's laws: a map of values beside; what Same does, plainly. -/
import Derived.Test.YtbmlggieifaniaaQe
import Derived.Test.YtbmlggieifaniaaQc
import Derived.Laws.IdiomRangeMap
namespace Go.Proofs.Ytbmlggieifaniaa
open Go.RowKit Go.Maps
set_option linter.unusedVariables false
set_option linter.unusedSimpArgs false

def intOfV : Value → Option Int
  | .int .i64 k => some k
  | _ => none
theorem intOfV_inv {v : Value} {k : Int} (h : intOfV v = some k) : v = .int .i64 k := by
  unfold intOfV at h
  split at h
  · cases h; rfl
  · cases h
/-- A key as the law has it. -/
def mI (m : Mp) (k : Int) : Option Bytes := if 0 ≤ k then m k.toNat else none
theorem mI_nat (m : Mp) (k : Nat) : mI m (k : Int) = m k := by unfold mI; rw [if_pos (by omega)]; simp
def gmF (m : Mp) (v : Value) : Option Value := (intOfV v).bind fun k => (mI m k).map fun L => .string (strB L)
theorem gmF_put (m : Mp) (k : Nat) (L : Bytes) : putK (gmF m) (.int .i64 (k : Nat)) (.string (strB L)) = gmF (upd m k (some L)) := by
  funext v
  unfold putK
  split
  · rename_i h; subst h; simp [gmF, intOfV, mI_nat, upd]
  · rename_i h
    unfold gmF
    cases hn : intOfV v with
    | none => rfl
    | some j =>
      have hjk : j ≠ (k : Int) := fun e => h (by rw [intOfV_inv hn, e])
      simp only [Option.bind_some]
      congr 1
      unfold mI
      split
      · rw [upd_other _ _ _ (by omega)]
      · rfl
theorem gmF_del (m : Mp) (k : Nat) : delK (gmF m) (.int .i64 (k : Nat)) = gmF (upd m k none) := by
  funext v
  unfold delK
  split
  · rename_i h; subst h; simp [gmF, intOfV, mI_nat, upd]
  · rename_i h
    unfold gmF
    cases hn : intOfV v with
    | none => rfl
    | some j =>
      have hjk : j ≠ (k : Int) := fun e => h (by rw [intOfV_inv hn, e])
      simp only [Option.bind_some]
      congr 1
      unfold mI
      split
      · rw [upd_other _ _ _ (by omega)]
      · rfl
theorem gmF_none : gmF (fun _ => none) = fun _ => none := by
  funext v
  unfold gmF
  cases intOfV v with
  | none => rfl
  | some k => simp [mI]
theorem intKeyed : Keyed Try.prog 3 := int_keyed Try.underlying3
/-- A map of the law's. -/
def GMap (w : World) (b : Nat) (m : Mp) (c : Nat) : Prop := MapIs Try.prog 3 w b (gmF m) c
theorem GMap.off {S : Nat → Prop} {w w' : World} {b c : Nat} {m : Mp} (h : GMap w b m c) (ho : Off S w w') (hs : ¬ S b) : GMap w' b m c := MapIs.off h ho hs
theorem zeroStr (w : World) : (zeroValue 9).run Try.prog w = .ok (.string ⟨#[]⟩) w := by kernel_rfl
theorem int_wf {k : Int} (h : -9223372036854775808 ≤ k ∧ k ≤ 9223372036854775807) : (Lit.int .i64 k).wf = true := by simpa [Lit.wf, IntKind.min, IntKind.max, IntKind.signed, IntKind.bits] using h
theorem GMap.look {w : World} {b c : Nat} {m : Mp} (h : GMap w b m c) {key : Int} (hk : -9223372036854775808 ≤ key ∧ key ≤ 9223372036854775807) :
    (Instr.lookup 30 (.map (some b)) (.int .i64 key) true).run Try.prog w = .ok (.tuple #[.string (strB ((mI m key).getD [])), .bool (mI m key).isSome]) w := by
  rw [MapIs.look h intKeyed Try.underlying30 (zeroStr w) (keyOf_int_mk Try.underlying3 (int_wf hk)) true]
  cases hg : mI m key <;> simp [gmF, intOfV, hg, strB]
theorem GMap.len {w : World} {b c : Nat} {m : Mp} (h : GMap w b m c) (ty : TypeId) : (Builtin.len_ #[30] ty #[.map (some b)]).run Try.prog w = .ok (.int .i64 (c : Nat)) w := MapIs.len h Try.underlying30 ty
theorem GMap.put {w : World} {b c : Nat} {m : Mp} (h : GMap w b m c) {key : Nat} (hk : key < 16777216) (L : Bytes) :
    ∃ w', (Instr.mapUpdate 30 (.map (some b)) (.int .i64 (key : Nat)) (.string (strB L))).run Try.prog w = .ok () w' ∧ GMap w' b (upd m key (some L)) (if (m key).isSome then c else c + 1) ∧ Off (· = b) w w' := by
  obtain ⟨w', h1, h2, h3⟩ := MapIs.put h intKeyed Try.underlying30 (key := .int .i64 (key : Nat)) (val := .string (strB L)) (keyOf_int_mk Try.underlying3 (int_wf (by omega)))
  rw [gmF_put] at h2
  refine ⟨w', h1, ?_, h3⟩
  have e : (gmF m (.int .i64 (key : Nat))).isSome = (m key).isSome := by simp [gmF, intOfV, mI_nat]
  rw [e] at h2
  exact h2

/-! ### Same, plainly -/
abbrev Sm := Option (Int × Int)
def smF (m : Mp) : Sm → Nat → Bytes → Sm × Bool
  | none, _, _ => (none, false)
  | some (last, k), key, v => if (key : Int) ≤ last ∨ m key ≠ some v then (none, false) else (some ((key : Int), inc64 k), true)
def smA : Sm → Bool := Option.isSome
theorem smF_al (m : Mp) (x : Sm) (key : Nat) (v : Bytes) (h : smA x = true) : (smF m x key v).2 = smA (smF m x key v).1 := by
  cases x with
  | none => cases h
  | some y =>
    obtain ⟨last, k⟩ := y
    simp only [smF]
    split <;> rfl
theorem foldU_same (m : Mp) : ∀ (ps : Ps) (last k : Int), ps.Pairwise (fun a b => a.1 < b.1) → (∀ x ∈ ps, last < (x.1 : Int)) → (∀ x ∈ ps, m x.1 = some x.2) → ∃ last', foldU (smF m) (some (last, k)) ps = (some (last', incN k ps.length), true)
  | [], last, k, _, _, _ => ⟨last, rfl⟩
  | (key, v) :: ps, last, k, h1, h2, h3 => by
    have a := List.pairwise_cons.1 h1
    have e : smF m (some (last, k)) key v = (some ((key : Int), inc64 k), true) := by
      simp only [smF]
      rw [if_neg]
      rintro (e | e)
      · have := h2 (key, v) (List.mem_cons_self ..)
        simp only at this
        omega
      · exact e (h3 (key, v) (List.mem_cons_self ..))
    obtain ⟨last', ih⟩ := foldU_same m ps (key : Int) (inc64 k) a.2 (fun x hx => by have := a.1 x hx; simp only at this; omega) (fun x hx => h3 x (List.mem_cons_of_mem _ hx))
    refine ⟨last', ?_⟩
    have e2 : foldU (smF m) (some (last, k)) ((key, v) :: ps) = foldU (smF m) (some ((key : Int), inc64 k)) ps := by
      show (if (smF m (some (last, k)) key v).2 then foldU (smF m) (smF m (some (last, k)) key v).1 ps else ((smF m (some (last, k)) key v).1, false)) = _
      rw [e]
      rfl
    rw [e2, ih, List.length_cons]
    have e3 : inc64 k = incN k 1 := rfl
    rw [e3, incN_add, Nat.add_comm]
theorem Lst.same {m : Mp} {ps : Ps} (h : Lst m ps) (hl : ps.length ≤ 149796) : ∃ last', foldU (smF m) (some (-1, 0)) ps = (some (last', (ps.length : Int)), true) := by
  obtain ⟨last', e⟩ := foldU_same m ps (-1) 0 h.up (fun x _ => by omega) (fun x hx => (h.mem x.1 x.2).1 hx)
  exact ⟨last', by rw [e, incN_small _ _ (by omega) (by omega)]; simp⟩
end Go.Proofs.Ytbmlggieifaniaa
