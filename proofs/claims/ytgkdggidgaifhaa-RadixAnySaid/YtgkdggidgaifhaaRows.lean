/-
  No cell of these rows narrows 'for every input' (looked for: loops, veiled, ifaces, maps, wideKeys, modest, calm, conditions, laid).
  DERIVED. THE GIVEN ROWS OF THIS SEAT. 4 by the template 'for every input the law returns true; each argument reads behind the call as it read before'; 0 by the template 'total and deterministic' (their statements: YtgkdggidgaifhaaTotals.lean).
  GIVEN WITH THE SEED: the statements are not yours to turn. If you find one false, say at which input.
  Laid BY PROGRAM, IN A SANDBOX (cutbox-rows.mjs): the forced cells as the released guide's own fill.sh prints them over the translation a8fb6e7a2e7a45a7… (all of the seat's roots in one cut). By AI agents, Wed Nov 11 2026. No macro, syntax, notation, axiom, sorry.
-/
import Derived.Test.YtgkdggidgaifhaaChecked
import GoSem.Claim
import GoSem.ClaimJoined
import GoSem.ClaimMapViews
import Derived.JoinedTies
import Derived.KernelRfl
namespace Go.Proofs.Ytgkdggidgaifhaa
/- THE CELL 'sum', in the pinned program and in every row, IS THE sha256 OF THE DUMP (.gsa) THAT YtgkdggidgaifhaaProg.lean LOADS. Nothing in Lean hashes anything: it is a label: what it is worth is what the hold of that sum in a sandbox is worth. -/
noncomputable def Try.pinned : Pinned := { name := "ytgkdggidgaifhaa", sum := "a8fb6e7a2e7a45a78ed5aefd672c5c1ef400f25011fe925ad8ab80ef4fa00d29", checked := Try.checked }
namespace Rows
def none {H : Type} : Left H := { results := [], args := [] }

/-- 'almanaclaw12.DeltaKeys': WHATEVER THE INPUT: true; the input reads as it did. -/
def deltaKeysSpec : ChangeSpec := { name := "deltaKeys", fn := fun _ => fun
  | [d1, d2, d3, d4] => { results := [.lit (.bool true)], args := [d1, d2, d3, d4] }
  | _ => none }
def deltaKeysRow : OpenClaim := { program := "ytgkdggidgaifhaa", sum := "a8fb6e7a2e7a45a78ed5aefd672c5c1ef400f25011fe925ad8ab80ef4fa00d29", func := "almanac/almanaclaw12.DeltaKeys", spec := "deltaKeys", unfollowed := true, recurses := true, plainKeys := false, apart := false }
def DeltaKeysSaid : Prop := deltaKeysRow.holds Try.pinned (OpenSpec.ofChange deltaKeysSpec)

/-- ITS FALSE NEIGHBOUR: 'it returns false'. Refute it at one input. -/
def deltaKeysWrong : ChangeSpec := { name := "deltaKeys", fn := fun _ => fun
  | [d1, d2, d3, d4] => { results := [.lit (.bool false)], args := [d1, d2, d3, d4] }
  | _ => none }
def DeltaKeysWrongFalsely : Prop := deltaKeysRow.holds Try.pinned (OpenSpec.ofChange deltaKeysWrong)

/-- 'almanaclaw12.DeltaApplies': WHATEVER THE INPUT: true; the input reads as it did. -/
def deltaAppliesSpec : ChangeSpec := { name := "deltaApplies", fn := fun _ => fun
  | [d1, d2, d3] => { results := [.lit (.bool true)], args := [d1, d2, d3] }
  | _ => none }
def deltaAppliesRow : OpenClaim := { program := "ytgkdggidgaifhaa", sum := "a8fb6e7a2e7a45a78ed5aefd672c5c1ef400f25011fe925ad8ab80ef4fa00d29", func := "almanac/almanaclaw12.DeltaApplies", spec := "deltaApplies", unfollowed := true, recurses := true, plainKeys := false, apart := false }
def DeltaAppliesSaid : Prop := deltaAppliesRow.holds Try.pinned (OpenSpec.ofChange deltaAppliesSpec)

/-- ITS FALSE NEIGHBOUR: 'it returns false'. Refute it at one input. -/
def deltaAppliesWrong : ChangeSpec := { name := "deltaApplies", fn := fun _ => fun
  | [d1, d2, d3] => { results := [.lit (.bool false)], args := [d1, d2, d3] }
  | _ => none }
def DeltaAppliesWrongFalsely : Prop := deltaAppliesRow.holds Try.pinned (OpenSpec.ofChange deltaAppliesWrong)

/-- 'almanaclaw12.DeltaSelf': WHATEVER THE INPUT: true; the input reads as it did. -/
def deltaSelfSpec : ChangeSpec := { name := "deltaSelf", fn := fun _ => fun
  | [d] => { results := [.lit (.bool true)], args := [d] }
  | _ => none }
def deltaSelfRow : OpenClaim := { program := "ytgkdggidgaifhaa", sum := "a8fb6e7a2e7a45a78ed5aefd672c5c1ef400f25011fe925ad8ab80ef4fa00d29", func := "almanac/almanaclaw12.DeltaSelf", spec := "deltaSelf", unfollowed := true, recurses := true, plainKeys := false, apart := false }
def DeltaSelfSaid : Prop := deltaSelfRow.holds Try.pinned (OpenSpec.ofChange deltaSelfSpec)

/-- ITS FALSE NEIGHBOUR: 'it returns false'. Refute it at one input. -/
def deltaSelfWrong : ChangeSpec := { name := "deltaSelf", fn := fun _ => fun
  | [d] => { results := [.lit (.bool false)], args := [d] }
  | _ => none }
def DeltaSelfWrongFalsely : Prop := deltaSelfRow.holds Try.pinned (OpenSpec.ofChange deltaSelfWrong)

/-- 'almanaclaw11.RadixAny': WHATEVER THE INPUT: true; the input reads as it did. -/
def radixAnySpec : ChangeSpec := { name := "radixAny", fn := fun _ => fun
  | [d1, d2, d3, d4, d5] => { results := [.lit (.bool true)], args := [d1, d2, d3, d4, d5] }
  | _ => none }
def radixAnyRow : OpenClaim := { program := "ytgkdggidgaifhaa", sum := "a8fb6e7a2e7a45a78ed5aefd672c5c1ef400f25011fe925ad8ab80ef4fa00d29", func := "almanac/almanaclaw11.RadixAny", spec := "radixAny", unfollowed := true, recurses := true, plainKeys := false, apart := false }
def RadixAnySaid : Prop := radixAnyRow.holds Try.pinned (OpenSpec.ofChange radixAnySpec)

/-- ITS FALSE NEIGHBOUR: 'it returns false'. Refute it at one input. -/
def radixAnyWrong : ChangeSpec := { name := "radixAny", fn := fun _ => fun
  | [d1, d2, d3, d4, d5] => { results := [.lit (.bool false)], args := [d1, d2, d3, d4, d5] }
  | _ => none }
def RadixAnyWrongFalsely : Prop := radixAnyRow.holds Try.pinned (OpenSpec.ofChange radixAnyWrong)

/- THE SECOND FORM. 'bulk': how many values and letters a reading holds, each counted each time it is reached (what is shared counts as often as it is met; a slice's spare places count too). A statement '..UptoSaid' is the law's where the arguments, and the package variables that the reading takes, are together of bulk at most 1048576: NARROWER than '..Said'. Prove '..Said' where nothing that the law and all that it calls make is longer than what came in: it says more and counts as full. Else prove '..UptoSaid'. A law counts once. -/
mutual
def uptoBulk {H : Type} : DataW H → Nat
  | .lit (.string bytes) => bytes.length + 1
  | .lit _ => 1
  | .nil => 1
  | .ptr d => uptoBulk d + 1
  | .slice elems spare => uptoBulkAll elems + uptoBulkAll spare + 1
  | .agg parts => uptoBulkAll parts + 1
  | .iface _ d => uptoBulk d + 1
  | .map entries => uptoBulkEntries entries + 1
  | .held _ => 1
def uptoBulkAll {H : Type} : List (DataW H) → Nat
  | [] => 0
  | d :: r => uptoBulk d + uptoBulkAll r
def uptoBulkEntries {H : Type} : List (Lit × DataW H) → Nat
  | [] => 0
  | x :: r => uptoBulkEntry x + uptoBulkEntries r
def uptoBulkEntry {H : Type} : Lit × DataW H → Nat
  | (.string bytes, d) => bytes.length + uptoBulk d + 1
  | (_, d) => uptoBulk d + 1
 end
def uptoSmall : (H : Type) → List (DataW H) → Bool := fun _ ds => decide (uptoBulkAll ds ≤ 1048576)
def OpenSpec.upto (s : _root_.Go.ChangeSpec) : _root_.Go.OpenSpec := { _root_.Go.OpenSpec.ofChange s with cond := some uptoSmall }

/-- 'almanaclaw12.DeltaKeys', WHERE WHAT IT READS IS OF BULK AT MOST 1048576: true; the input reads as it did. -/
def deltaKeysUptoRow : OpenClaim := { program := "ytgkdggidgaifhaa", sum := "a8fb6e7a2e7a45a78ed5aefd672c5c1ef400f25011fe925ad8ab80ef4fa00d29", func := "almanac/almanaclaw12.DeltaKeys", spec := "deltaKeys", unfollowed := true, recurses := true, plainKeys := false, apart := false, narrowed := true }
def DeltaKeysUptoSaid : Prop := deltaKeysUptoRow.holds Try.pinned (OpenSpec.upto deltaKeysSpec)

/-- 'almanaclaw12.DeltaApplies', WHERE WHAT IT READS IS OF BULK AT MOST 1048576: true; the input reads as it did. -/
def deltaAppliesUptoRow : OpenClaim := { program := "ytgkdggidgaifhaa", sum := "a8fb6e7a2e7a45a78ed5aefd672c5c1ef400f25011fe925ad8ab80ef4fa00d29", func := "almanac/almanaclaw12.DeltaApplies", spec := "deltaApplies", unfollowed := true, recurses := true, plainKeys := false, apart := false, narrowed := true }
def DeltaAppliesUptoSaid : Prop := deltaAppliesUptoRow.holds Try.pinned (OpenSpec.upto deltaAppliesSpec)

/-- 'almanaclaw12.DeltaSelf', WHERE WHAT IT READS IS OF BULK AT MOST 1048576: true; the input reads as it did. -/
def deltaSelfUptoRow : OpenClaim := { program := "ytgkdggidgaifhaa", sum := "a8fb6e7a2e7a45a78ed5aefd672c5c1ef400f25011fe925ad8ab80ef4fa00d29", func := "almanac/almanaclaw12.DeltaSelf", spec := "deltaSelf", unfollowed := true, recurses := true, plainKeys := false, apart := false, narrowed := true }
def DeltaSelfUptoSaid : Prop := deltaSelfUptoRow.holds Try.pinned (OpenSpec.upto deltaSelfSpec)

/-- 'almanaclaw11.RadixAny', WHERE WHAT IT READS IS OF BULK AT MOST 1048576: true; the input reads as it did. -/
def radixAnyUptoRow : OpenClaim := { program := "ytgkdggidgaifhaa", sum := "a8fb6e7a2e7a45a78ed5aefd672c5c1ef400f25011fe925ad8ab80ef4fa00d29", func := "almanac/almanaclaw11.RadixAny", spec := "radixAny", unfollowed := true, recurses := true, plainKeys := false, apart := false, narrowed := true }
def RadixAnyUptoSaid : Prop := radixAnyUptoRow.holds Try.pinned (OpenSpec.upto radixAnySpec)

end Rows
end Go.Proofs.Ytgkdggidgaifhaa
