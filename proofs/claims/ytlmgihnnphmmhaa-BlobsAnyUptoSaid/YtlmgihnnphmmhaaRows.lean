/-
  No cell of these rows narrows 'for every input' (looked for: loops, veiled, ifaces, maps, wideKeys, modest, calm, conditions, laid).
  DERIVED. THE GIVEN ROWS OF THIS SEAT. 7 by the template 'for every input the law returns true; each argument reads behind the call as it read before'; 0 by the template 'total and deterministic' (their statements: YtlmgihnnphmmhaaTotals.lean).
  GIVEN WITH THE SEED: the statements are not yours to turn. If you find one false, say at which input.
  Laid BY PROGRAM, IN A SANDBOX (cutbox-rows.mjs): the forced cells as the released guide's own fill.sh prints them over the translation d524de75fd6a2e68… (all of the seat's roots in one cut). By AI agents, Wed Nov 11 2026. No macro, syntax, notation, axiom, sorry.
-/
import Derived.Test.YtlmgihnnphmmhaaChecked
import GoSem.Claim
import GoSem.ClaimJoined
import GoSem.ClaimMapViews
import Derived.JoinedTies
import Derived.KernelRfl
namespace Go.Proofs.Ytlmgihnnphmmhaa
/- THE CELL 'sum', in the pinned program and in every row, IS THE sha256 OF THE DUMP (.gsa) THAT YtlmgihnnphmmhaaProg.lean LOADS. Nothing in Lean hashes anything: it is a label: what it is worth is what the hold of that sum in a sandbox is worth. -/
noncomputable def Try.pinned : Pinned := { name := "ytlmgihnnphmmhaa", sum := "d524de75fd6a2e68a3dc3b56fe2aba27a95873d8a9a56c25b69d9768e975ef5e", checked := Try.checked }
namespace Rows
def none {H : Type} : Left H := { results := [], args := [] }

/-- 'almanaclaw9.BlobsSmall': WHATEVER THE INPUT: true; the input reads as it did. -/
def blobsSmallSpec : ChangeSpec := { name := "blobsSmall", fn := fun _ => fun
  | [d1, d2, d3] => { results := [.lit (.bool true)], args := [d1, d2, d3] }
  | _ => none }
def blobsSmallRow : OpenClaim := { program := "ytlmgihnnphmmhaa", sum := "d524de75fd6a2e68a3dc3b56fe2aba27a95873d8a9a56c25b69d9768e975ef5e", func := "almanac/almanaclaw9.BlobsSmall", spec := "blobsSmall", unfollowed := true, recurses := true, plainKeys := false, apart := false }
def BlobsSmallSaid : Prop := blobsSmallRow.holds Try.pinned (OpenSpec.ofChange blobsSmallSpec)

/-- ITS FALSE NEIGHBOUR: 'it returns false'. Refute it at one input. -/
def blobsSmallWrong : ChangeSpec := { name := "blobsSmall", fn := fun _ => fun
  | [d1, d2, d3] => { results := [.lit (.bool false)], args := [d1, d2, d3] }
  | _ => none }
def BlobsSmallWrongFalsely : Prop := blobsSmallRow.holds Try.pinned (OpenSpec.ofChange blobsSmallWrong)

/-- 'almanaclaw9.BlobsPlays': WHATEVER THE INPUT: true; the input reads as it did. -/
def blobsPlaysSpec : ChangeSpec := { name := "blobsPlays", fn := fun _ => fun
  | [d1, d2] => { results := [.lit (.bool true)], args := [d1, d2] }
  | _ => none }
def blobsPlaysRow : OpenClaim := { program := "ytlmgihnnphmmhaa", sum := "d524de75fd6a2e68a3dc3b56fe2aba27a95873d8a9a56c25b69d9768e975ef5e", func := "almanac/almanaclaw9.BlobsPlays", spec := "blobsPlays", unfollowed := true, recurses := true, plainKeys := false, apart := false }
def BlobsPlaysSaid : Prop := blobsPlaysRow.holds Try.pinned (OpenSpec.ofChange blobsPlaysSpec)

/-- ITS FALSE NEIGHBOUR: 'it returns false'. Refute it at one input. -/
def blobsPlaysWrong : ChangeSpec := { name := "blobsPlays", fn := fun _ => fun
  | [d1, d2] => { results := [.lit (.bool false)], args := [d1, d2] }
  | _ => none }
def BlobsPlaysWrongFalsely : Prop := blobsPlaysRow.holds Try.pinned (OpenSpec.ofChange blobsPlaysWrong)

/-- 'almanaclaw9.BlobsForm': WHATEVER THE INPUT: true; the input reads as it did. -/
def blobsFormSpec : ChangeSpec := { name := "blobsForm", fn := fun _ => fun
  | [d1, d2] => { results := [.lit (.bool true)], args := [d1, d2] }
  | _ => none }
def blobsFormRow : OpenClaim := { program := "ytlmgihnnphmmhaa", sum := "d524de75fd6a2e68a3dc3b56fe2aba27a95873d8a9a56c25b69d9768e975ef5e", func := "almanac/almanaclaw9.BlobsForm", spec := "blobsForm", unfollowed := true, recurses := true, plainKeys := false, apart := false }
def BlobsFormSaid : Prop := blobsFormRow.holds Try.pinned (OpenSpec.ofChange blobsFormSpec)

/-- ITS FALSE NEIGHBOUR: 'it returns false'. Refute it at one input. -/
def blobsFormWrong : ChangeSpec := { name := "blobsForm", fn := fun _ => fun
  | [d1, d2] => { results := [.lit (.bool false)], args := [d1, d2] }
  | _ => none }
def BlobsFormWrongFalsely : Prop := blobsFormRow.holds Try.pinned (OpenSpec.ofChange blobsFormWrong)

/-- 'almanaclaw9.BlobsTaken': WHATEVER THE INPUT: true; the input reads as it did. -/
def blobsTakenSpec : ChangeSpec := { name := "blobsTaken", fn := fun _ => fun
  | [d1, d2, d3] => { results := [.lit (.bool true)], args := [d1, d2, d3] }
  | _ => none }
def blobsTakenRow : OpenClaim := { program := "ytlmgihnnphmmhaa", sum := "d524de75fd6a2e68a3dc3b56fe2aba27a95873d8a9a56c25b69d9768e975ef5e", func := "almanac/almanaclaw9.BlobsTaken", spec := "blobsTaken", unfollowed := true, recurses := true, plainKeys := false, apart := false }
def BlobsTakenSaid : Prop := blobsTakenRow.holds Try.pinned (OpenSpec.ofChange blobsTakenSpec)

/-- ITS FALSE NEIGHBOUR: 'it returns false'. Refute it at one input. -/
def blobsTakenWrong : ChangeSpec := { name := "blobsTaken", fn := fun _ => fun
  | [d1, d2, d3] => { results := [.lit (.bool false)], args := [d1, d2, d3] }
  | _ => none }
def BlobsTakenWrongFalsely : Prop := blobsTakenRow.holds Try.pinned (OpenSpec.ofChange blobsTakenWrong)

/-- 'almanaclaw9.BlobsSpoil': WHATEVER THE INPUT: true; the input reads as it did. -/
def blobsSpoilSpec : ChangeSpec := { name := "blobsSpoil", fn := fun _ => fun
  | [d1, d2, d3] => { results := [.lit (.bool true)], args := [d1, d2, d3] }
  | _ => none }
def blobsSpoilRow : OpenClaim := { program := "ytlmgihnnphmmhaa", sum := "d524de75fd6a2e68a3dc3b56fe2aba27a95873d8a9a56c25b69d9768e975ef5e", func := "almanac/almanaclaw9.BlobsSpoil", spec := "blobsSpoil", unfollowed := true, recurses := true, plainKeys := false, apart := false }
def BlobsSpoilSaid : Prop := blobsSpoilRow.holds Try.pinned (OpenSpec.ofChange blobsSpoilSpec)

/-- ITS FALSE NEIGHBOUR: 'it returns false'. Refute it at one input. -/
def blobsSpoilWrong : ChangeSpec := { name := "blobsSpoil", fn := fun _ => fun
  | [d1, d2, d3] => { results := [.lit (.bool false)], args := [d1, d2, d3] }
  | _ => none }
def BlobsSpoilWrongFalsely : Prop := blobsSpoilRow.holds Try.pinned (OpenSpec.ofChange blobsSpoilWrong)

/-- 'almanaclaw9.BlobsCuts': WHATEVER THE INPUT: true; the input reads as it did. -/
def blobsCutsSpec : ChangeSpec := { name := "blobsCuts", fn := fun _ => fun
  | [d1, d2, d3, d4, d5] => { results := [.lit (.bool true)], args := [d1, d2, d3, d4, d5] }
  | _ => none }
def blobsCutsRow : OpenClaim := { program := "ytlmgihnnphmmhaa", sum := "d524de75fd6a2e68a3dc3b56fe2aba27a95873d8a9a56c25b69d9768e975ef5e", func := "almanac/almanaclaw9.BlobsCuts", spec := "blobsCuts", unfollowed := true, recurses := true, plainKeys := false, apart := false }
def BlobsCutsSaid : Prop := blobsCutsRow.holds Try.pinned (OpenSpec.ofChange blobsCutsSpec)

/-- ITS FALSE NEIGHBOUR: 'it returns false'. Refute it at one input. -/
def blobsCutsWrong : ChangeSpec := { name := "blobsCuts", fn := fun _ => fun
  | [d1, d2, d3, d4, d5] => { results := [.lit (.bool false)], args := [d1, d2, d3, d4, d5] }
  | _ => none }
def BlobsCutsWrongFalsely : Prop := blobsCutsRow.holds Try.pinned (OpenSpec.ofChange blobsCutsWrong)

/-- 'almanaclaw9.BlobsAny': WHATEVER THE INPUT: true; the input reads as it did. -/
def blobsAnySpec : ChangeSpec := { name := "blobsAny", fn := fun _ => fun
  | [d1, d2, d3, d4, d5, d6, d7] => { results := [.lit (.bool true)], args := [d1, d2, d3, d4, d5, d6, d7] }
  | _ => none }
def blobsAnyRow : OpenClaim := { program := "ytlmgihnnphmmhaa", sum := "d524de75fd6a2e68a3dc3b56fe2aba27a95873d8a9a56c25b69d9768e975ef5e", func := "almanac/almanaclaw9.BlobsAny", spec := "blobsAny", unfollowed := true, recurses := true, plainKeys := false, apart := false }
def BlobsAnySaid : Prop := blobsAnyRow.holds Try.pinned (OpenSpec.ofChange blobsAnySpec)

/-- ITS FALSE NEIGHBOUR: 'it returns false'. Refute it at one input. -/
def blobsAnyWrong : ChangeSpec := { name := "blobsAny", fn := fun _ => fun
  | [d1, d2, d3, d4, d5, d6, d7] => { results := [.lit (.bool false)], args := [d1, d2, d3, d4, d5, d6, d7] }
  | _ => none }
def BlobsAnyWrongFalsely : Prop := blobsAnyRow.holds Try.pinned (OpenSpec.ofChange blobsAnyWrong)

/- THE SECOND FORM. 'bulk': how many values and letters a reading holds, each counted each time it is reached (what is shared counts as often as it is met; a slice's spare places count too). A statement '..UptoSaid' is the law's where the arguments, and the package variables that the reading takes, are together of bulk at most 1048576: NARROWER than '..Said'. Prove '..Said' where nothing that the law and all that it calls make is longer than what came in: it says more and counts as full. Else prove '..UptoSaid'. A law counts once. -/
mutual
def uptoBulk {H : Type} : DataW H → Nat
  | .lit (.string bytes) => bytes.length + 1
  | .lit _ => 1
  | .nil => 1
  | .ptr d => uptoBulk d + 1
  | .slice elems spare => uptoBulkAll elems + uptoBulkAll spare + 1
  | .agg parts => uptoBulkAll parts + 1
  | .iface _ d => uptoBulk d + 1
  | .map entries => uptoBulkEntries entries + 1
  | .held _ => 1
def uptoBulkAll {H : Type} : List (DataW H) → Nat
  | [] => 0
  | d :: r => uptoBulk d + uptoBulkAll r
def uptoBulkEntries {H : Type} : List (Lit × DataW H) → Nat
  | [] => 0
  | x :: r => uptoBulkEntry x + uptoBulkEntries r
def uptoBulkEntry {H : Type} : Lit × DataW H → Nat
  | (.string bytes, d) => bytes.length + uptoBulk d + 1
  | (_, d) => uptoBulk d + 1
 end
def uptoSmall : (H : Type) → List (DataW H) → Bool := fun _ ds => decide (uptoBulkAll ds ≤ 1048576)
def OpenSpec.upto (s : _root_.Go.ChangeSpec) : _root_.Go.OpenSpec := { _root_.Go.OpenSpec.ofChange s with cond := some uptoSmall }

/-- 'almanaclaw9.BlobsSmall', WHERE WHAT IT READS IS OF BULK AT MOST 1048576: true; the input reads as it did. -/
def blobsSmallUptoRow : OpenClaim := { program := "ytlmgihnnphmmhaa", sum := "d524de75fd6a2e68a3dc3b56fe2aba27a95873d8a9a56c25b69d9768e975ef5e", func := "almanac/almanaclaw9.BlobsSmall", spec := "blobsSmall", unfollowed := true, recurses := true, plainKeys := false, apart := false, narrowed := true }
def BlobsSmallUptoSaid : Prop := blobsSmallUptoRow.holds Try.pinned (OpenSpec.upto blobsSmallSpec)

/-- 'almanaclaw9.BlobsPlays', WHERE WHAT IT READS IS OF BULK AT MOST 1048576: true; the input reads as it did. -/
def blobsPlaysUptoRow : OpenClaim := { program := "ytlmgihnnphmmhaa", sum := "d524de75fd6a2e68a3dc3b56fe2aba27a95873d8a9a56c25b69d9768e975ef5e", func := "almanac/almanaclaw9.BlobsPlays", spec := "blobsPlays", unfollowed := true, recurses := true, plainKeys := false, apart := false, narrowed := true }
def BlobsPlaysUptoSaid : Prop := blobsPlaysUptoRow.holds Try.pinned (OpenSpec.upto blobsPlaysSpec)

/-- 'almanaclaw9.BlobsForm', WHERE WHAT IT READS IS OF BULK AT MOST 1048576: true; the input reads as it did. -/
def blobsFormUptoRow : OpenClaim := { program := "ytlmgihnnphmmhaa", sum := "d524de75fd6a2e68a3dc3b56fe2aba27a95873d8a9a56c25b69d9768e975ef5e", func := "almanac/almanaclaw9.BlobsForm", spec := "blobsForm", unfollowed := true, recurses := true, plainKeys := false, apart := false, narrowed := true }
def BlobsFormUptoSaid : Prop := blobsFormUptoRow.holds Try.pinned (OpenSpec.upto blobsFormSpec)

/-- 'almanaclaw9.BlobsTaken', WHERE WHAT IT READS IS OF BULK AT MOST 1048576: true; the input reads as it did. -/
def blobsTakenUptoRow : OpenClaim := { program := "ytlmgihnnphmmhaa", sum := "d524de75fd6a2e68a3dc3b56fe2aba27a95873d8a9a56c25b69d9768e975ef5e", func := "almanac/almanaclaw9.BlobsTaken", spec := "blobsTaken", unfollowed := true, recurses := true, plainKeys := false, apart := false, narrowed := true }
def BlobsTakenUptoSaid : Prop := blobsTakenUptoRow.holds Try.pinned (OpenSpec.upto blobsTakenSpec)

/-- 'almanaclaw9.BlobsSpoil', WHERE WHAT IT READS IS OF BULK AT MOST 1048576: true; the input reads as it did. -/
def blobsSpoilUptoRow : OpenClaim := { program := "ytlmgihnnphmmhaa", sum := "d524de75fd6a2e68a3dc3b56fe2aba27a95873d8a9a56c25b69d9768e975ef5e", func := "almanac/almanaclaw9.BlobsSpoil", spec := "blobsSpoil", unfollowed := true, recurses := true, plainKeys := false, apart := false, narrowed := true }
def BlobsSpoilUptoSaid : Prop := blobsSpoilUptoRow.holds Try.pinned (OpenSpec.upto blobsSpoilSpec)

/-- 'almanaclaw9.BlobsCuts', WHERE WHAT IT READS IS OF BULK AT MOST 1048576: true; the input reads as it did. -/
def blobsCutsUptoRow : OpenClaim := { program := "ytlmgihnnphmmhaa", sum := "d524de75fd6a2e68a3dc3b56fe2aba27a95873d8a9a56c25b69d9768e975ef5e", func := "almanac/almanaclaw9.BlobsCuts", spec := "blobsCuts", unfollowed := true, recurses := true, plainKeys := false, apart := false, narrowed := true }
def BlobsCutsUptoSaid : Prop := blobsCutsUptoRow.holds Try.pinned (OpenSpec.upto blobsCutsSpec)

/-- 'almanaclaw9.BlobsAny', WHERE WHAT IT READS IS OF BULK AT MOST 1048576: true; the input reads as it did. -/
def blobsAnyUptoRow : OpenClaim := { program := "ytlmgihnnphmmhaa", sum := "d524de75fd6a2e68a3dc3b56fe2aba27a95873d8a9a56c25b69d9768e975ef5e", func := "almanac/almanaclaw9.BlobsAny", spec := "blobsAny", unfollowed := true, recurses := true, plainKeys := false, apart := false, narrowed := true }
def BlobsAnyUptoSaid : Prop := blobsAnyUptoRow.holds Try.pinned (OpenSpec.upto blobsAnySpec)

end Rows
end Go.Proofs.Ytlmgihnnphmmhaa
