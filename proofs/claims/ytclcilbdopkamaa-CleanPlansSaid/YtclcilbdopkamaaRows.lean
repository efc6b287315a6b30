/-
  No cell of these rows narrows 'for every input' (looked for: loops, veiled, ifaces, maps, wideKeys, modest, calm, conditions, laid).
  DERIVED. THE GIVEN ROWS OF THIS SEAT. 3 by the template 'for every input the law returns true; each argument reads behind the call as it read before'; 0 by the template 'total and deterministic' (their statements: YtclcilbdopkamaaTotals.lean).
  GIVEN WITH THE SEED: the statements are not yours to turn. If you find one false, say at which input.
  Laid BY PROGRAM, IN A SANDBOX (cutbox-rows.mjs): the forced cells as the released guide's own fill.sh prints them over the translation 94a5135cf7baf7c1… (all of the seat's roots in one cut). By AI agents, Wed Nov 11 2026. No macro, syntax, notation, axiom, sorry.
-/
import Derived.Test.YtclcilbdopkamaaChecked
import GoSem.Claim
import GoSem.ClaimJoined
import GoSem.ClaimMapViews
import Derived.JoinedTies
import Derived.KernelRfl
namespace Go.Proofs.Ytclcilbdopkamaa
/- THE CELL 'sum', in the pinned program and in every row, IS THE sha256 OF THE DUMP (.gsa) THAT YtclcilbdopkamaaProg.lean LOADS. Nothing in Lean hashes anything: it is a label: what it is worth is what the hold of that sum in a sandbox is worth. -/
noncomputable def Try.pinned : Pinned := { name := "ytclcilbdopkamaa", sum := "94a5135cf7baf7c1b4628b0c9e8a12916d6b3baa5ea814ab95eb73b2656cf75c", checked := Try.checked }
namespace Rows
def none {H : Type} : Left H := { results := [], args := [] }

/-- 'almanaclaw10.CleanOrder': WHATEVER THE INPUT: true; the input reads as it did. -/
def cleanOrderSpec : ChangeSpec := { name := "cleanOrder", fn := fun _ => fun
  | [d1, d2, d3] => { results := [.lit (.bool true)], args := [d1, d2, d3] }
  | _ => none }
def cleanOrderRow : OpenClaim := { program := "ytclcilbdopkamaa", sum := "94a5135cf7baf7c1b4628b0c9e8a12916d6b3baa5ea814ab95eb73b2656cf75c", func := "almanac/almanaclaw10.CleanOrder", spec := "cleanOrder", apart := false }
def CleanOrderSaid : Prop := cleanOrderRow.holds Try.pinned (OpenSpec.ofChange cleanOrderSpec)

/-- ITS FALSE NEIGHBOUR: 'it returns false'. Refute it at one input. -/
def cleanOrderWrong : ChangeSpec := { name := "cleanOrder", fn := fun _ => fun
  | [d1, d2, d3] => { results := [.lit (.bool false)], args := [d1, d2, d3] }
  | _ => none }
def CleanOrderWrongFalsely : Prop := cleanOrderRow.holds Try.pinned (OpenSpec.ofChange cleanOrderWrong)

/-- 'almanaclaw10.CleanGreedy': WHATEVER THE INPUT: true; the input reads as it did. -/
def cleanGreedySpec : ChangeSpec := { name := "cleanGreedy", fn := fun _ => fun
  | [d1, d2, d3] => { results := [.lit (.bool true)], args := [d1, d2, d3] }
  | _ => none }
def cleanGreedyRow : OpenClaim := { program := "ytclcilbdopkamaa", sum := "94a5135cf7baf7c1b4628b0c9e8a12916d6b3baa5ea814ab95eb73b2656cf75c", func := "almanac/almanaclaw10.CleanGreedy", spec := "cleanGreedy", apart := false }
def CleanGreedySaid : Prop := cleanGreedyRow.holds Try.pinned (OpenSpec.ofChange cleanGreedySpec)

/-- ITS FALSE NEIGHBOUR: 'it returns false'. Refute it at one input. -/
def cleanGreedyWrong : ChangeSpec := { name := "cleanGreedy", fn := fun _ => fun
  | [d1, d2, d3] => { results := [.lit (.bool false)], args := [d1, d2, d3] }
  | _ => none }
def CleanGreedyWrongFalsely : Prop := cleanGreedyRow.holds Try.pinned (OpenSpec.ofChange cleanGreedyWrong)

/-- 'almanaclaw10.CleanPlans': WHATEVER THE INPUT: true; the input reads as it did. -/
def cleanPlansSpec : ChangeSpec := { name := "cleanPlans", fn := fun _ => fun
  | [d1, d2, d3] => { results := [.lit (.bool true)], args := [d1, d2, d3] }
  | _ => none }
def cleanPlansRow : OpenClaim := { program := "ytclcilbdopkamaa", sum := "94a5135cf7baf7c1b4628b0c9e8a12916d6b3baa5ea814ab95eb73b2656cf75c", func := "almanac/almanaclaw10.CleanPlans", spec := "cleanPlans", apart := false }
def CleanPlansSaid : Prop := cleanPlansRow.holds Try.pinned (OpenSpec.ofChange cleanPlansSpec)

/-- ITS FALSE NEIGHBOUR: 'it returns false'. Refute it at one input. -/
def cleanPlansWrong : ChangeSpec := { name := "cleanPlans", fn := fun _ => fun
  | [d1, d2, d3] => { results := [.lit (.bool false)], args := [d1, d2, d3] }
  | _ => none }
def CleanPlansWrongFalsely : Prop := cleanPlansRow.holds Try.pinned (OpenSpec.ofChange cleanPlansWrong)

/- THE SECOND FORM. 'bulk': how many values and letters a reading holds, each counted each time it is reached (what is shared counts as often as it is met; a slice's spare places count too). A statement '..UptoSaid' is the law's where the arguments, and the package variables that the reading takes, are together of bulk at most 1048576: NARROWER than '..Said'. Prove '..Said' where nothing that the law and all that it calls make is longer than what came in: it says more and counts as full. Else prove '..UptoSaid'. A law counts once. -/
mutual
def uptoBulk {H : Type} : DataW H → Nat
  | .lit (.string bytes) => bytes.length + 1
  | .lit _ => 1
  | .nil => 1
  | .ptr d => uptoBulk d + 1
  | .slice elems spare => uptoBulkAll elems + uptoBulkAll spare + 1
  | .agg parts => uptoBulkAll parts + 1
  | .iface _ d => uptoBulk d + 1
  | .map entries => uptoBulkEntries entries + 1
  | .held _ => 1
def uptoBulkAll {H : Type} : List (DataW H) → Nat
  | [] => 0
  | d :: r => uptoBulk d + uptoBulkAll r
def uptoBulkEntries {H : Type} : List (Lit × DataW H) → Nat
  | [] => 0
  | x :: r => uptoBulkEntry x + uptoBulkEntries r
def uptoBulkEntry {H : Type} : Lit × DataW H → Nat
  | (.string bytes, d) => bytes.length + uptoBulk d + 1
  | (_, d) => uptoBulk d + 1
 end
def uptoSmall : (H : Type) → List (DataW H) → Bool := fun _ ds => decide (uptoBulkAll ds ≤ 1048576)
def OpenSpec.upto (s : _root_.Go.ChangeSpec) : _root_.Go.OpenSpec := { _root_.Go.OpenSpec.ofChange s with cond := some uptoSmall }

/-- 'almanaclaw10.CleanOrder', WHERE WHAT IT READS IS OF BULK AT MOST 1048576: true; the input reads as it did. -/
def cleanOrderUptoRow : OpenClaim := { program := "ytclcilbdopkamaa", sum := "94a5135cf7baf7c1b4628b0c9e8a12916d6b3baa5ea814ab95eb73b2656cf75c", func := "almanac/almanaclaw10.CleanOrder", spec := "cleanOrder", apart := false, narrowed := true }
def CleanOrderUptoSaid : Prop := cleanOrderUptoRow.holds Try.pinned (OpenSpec.upto cleanOrderSpec)

/-- 'almanaclaw10.CleanGreedy', WHERE WHAT IT READS IS OF BULK AT MOST 1048576: true; the input reads as it did. -/
def cleanGreedyUptoRow : OpenClaim := { program := "ytclcilbdopkamaa", sum := "94a5135cf7baf7c1b4628b0c9e8a12916d6b3baa5ea814ab95eb73b2656cf75c", func := "almanac/almanaclaw10.CleanGreedy", spec := "cleanGreedy", apart := false, narrowed := true }
def CleanGreedyUptoSaid : Prop := cleanGreedyUptoRow.holds Try.pinned (OpenSpec.upto cleanGreedySpec)

/-- 'almanaclaw10.CleanPlans', WHERE WHAT IT READS IS OF BULK AT MOST 1048576: true; the input reads as it did. -/
def cleanPlansUptoRow : OpenClaim := { program := "ytclcilbdopkamaa", sum := "94a5135cf7baf7c1b4628b0c9e8a12916d6b3baa5ea814ab95eb73b2656cf75c", func := "almanac/almanaclaw10.CleanPlans", spec := "cleanPlans", apart := false, narrowed := true }
def CleanPlansUptoSaid : Prop := cleanPlansUptoRow.holds Try.pinned (OpenSpec.upto cleanPlansSpec)

end Rows
end Go.Proofs.Ytclcilbdopkamaa
