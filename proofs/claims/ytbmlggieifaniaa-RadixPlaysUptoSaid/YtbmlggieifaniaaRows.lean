/-
  No cell of these rows narrows 'for every input' (looked for: loops, veiled, ifaces, maps, wideKeys, modest, calm, conditions, laid).
  DERIVED. THE GIVEN ROWS OF THIS SEAT. 5 by the template 'for every input the law returns true; each argument reads behind the call as it read before'; 0 by the template 'total and deterministic' (their statements: YtbmlggieifaniaaTotals.lean).
  GIVEN WITH THE SEED: the statements are not yours to turn. If you find one false, say at which input.
  Laid BY PROGRAM, IN A SANDBOX (cutbox-rows.mjs): the forced cells as the released guide's own fill.sh prints them over the translation 58099c4ef3628140… (all of the seat's roots in one cut). By AI agents, Wed Nov 11 2026. No macro, syntax, notation, axiom, sorry.
-/
import Derived.Test.YtbmlggieifaniaaChecked
import GoSem.Claim
import GoSem.ClaimJoined
import GoSem.ClaimMapViews
import Derived.JoinedTies
import Derived.KernelRfl
namespace Go.Proofs.Ytbmlggieifaniaa
/- THE CELL 'sum', in the pinned program and in every row, IS THE sha256 OF THE DUMP (.gsa) THAT YtbmlggieifaniaaProg.lean LOADS. Nothing in Lean hashes anything: it is a label: what it is worth is what the hold of that sum in a sandbox is worth. -/
noncomputable def Try.pinned : Pinned := { name := "ytbmlggieifaniaa", sum := "58099c4ef362814026121f159940f8cf4161ff87c5501f6cad7a1f5687303ad1", checked := Try.checked }
namespace Rows
def none {H : Type} : Left H := { results := [], args := [] }

/-- 'almanaclaw11.RadixFull': WHATEVER THE INPUT: true; the input reads as it did. -/
def radixFullSpec : ChangeSpec := { name := "radixFull", fn := fun _ => fun
  | [d1, d2, d3, d4] => { results := [.lit (.bool true)], args := [d1, d2, d3, d4] }
  | _ => none }
def radixFullRow : OpenClaim := { program := "ytbmlggieifaniaa", sum := "58099c4ef362814026121f159940f8cf4161ff87c5501f6cad7a1f5687303ad1", func := "almanac/almanaclaw11.RadixFull", spec := "radixFull", unfollowed := true, recurses := true, apart := false }
def RadixFullSaid : Prop := radixFullRow.holds Try.pinned (OpenSpec.ofChange radixFullSpec)

/-- ITS FALSE NEIGHBOUR: 'it returns false'. Refute it at one input. -/
def radixFullWrong : ChangeSpec := { name := "radixFull", fn := fun _ => fun
  | [d1, d2, d3, d4] => { results := [.lit (.bool false)], args := [d1, d2, d3, d4] }
  | _ => none }
def RadixFullWrongFalsely : Prop := radixFullRow.holds Try.pinned (OpenSpec.ofChange radixFullWrong)

/-- 'almanaclaw11.RadixOrders': WHATEVER THE INPUT: true; the input reads as it did. -/
def radixOrdersSpec : ChangeSpec := { name := "radixOrders", fn := fun _ => fun
  | [d1, d2] => { results := [.lit (.bool true)], args := [d1, d2] }
  | _ => none }
def radixOrdersRow : OpenClaim := { program := "ytbmlggieifaniaa", sum := "58099c4ef362814026121f159940f8cf4161ff87c5501f6cad7a1f5687303ad1", func := "almanac/almanaclaw11.RadixOrders", spec := "radixOrders", unfollowed := true, recurses := true, apart := false }
def RadixOrdersSaid : Prop := radixOrdersRow.holds Try.pinned (OpenSpec.ofChange radixOrdersSpec)

/-- ITS FALSE NEIGHBOUR: 'it returns false'. Refute it at one input. -/
def radixOrdersWrong : ChangeSpec := { name := "radixOrders", fn := fun _ => fun
  | [d1, d2] => { results := [.lit (.bool false)], args := [d1, d2] }
  | _ => none }
def RadixOrdersWrongFalsely : Prop := radixOrdersRow.holds Try.pinned (OpenSpec.ofChange radixOrdersWrong)

/-- 'almanaclaw11.RadixEmpties': WHATEVER THE INPUT: true; the input reads as it did. -/
def radixEmptiesSpec : ChangeSpec := { name := "radixEmpties", fn := fun _ => fun
  | [d1, d2] => { results := [.lit (.bool true)], args := [d1, d2] }
  | _ => none }
def radixEmptiesRow : OpenClaim := { program := "ytbmlggieifaniaa", sum := "58099c4ef362814026121f159940f8cf4161ff87c5501f6cad7a1f5687303ad1", func := "almanac/almanaclaw11.RadixEmpties", spec := "radixEmpties", unfollowed := true, recurses := true, apart := false }
def RadixEmptiesSaid : Prop := radixEmptiesRow.holds Try.pinned (OpenSpec.ofChange radixEmptiesSpec)

/-- ITS FALSE NEIGHBOUR: 'it returns false'. Refute it at one input. -/
def radixEmptiesWrong : ChangeSpec := { name := "radixEmpties", fn := fun _ => fun
  | [d1, d2] => { results := [.lit (.bool false)], args := [d1, d2] }
  | _ => none }
def RadixEmptiesWrongFalsely : Prop := radixEmptiesRow.holds Try.pinned (OpenSpec.ofChange radixEmptiesWrong)

/-- 'almanaclaw11.RadixPlays': WHATEVER THE INPUT: true; the input reads as it did. -/
def radixPlaysSpec : ChangeSpec := { name := "radixPlays", fn := fun _ => fun
  | [d] => { results := [.lit (.bool true)], args := [d] }
  | _ => none }
def radixPlaysRow : OpenClaim := { program := "ytbmlggieifaniaa", sum := "58099c4ef362814026121f159940f8cf4161ff87c5501f6cad7a1f5687303ad1", func := "almanac/almanaclaw11.RadixPlays", spec := "radixPlays", unfollowed := true, recurses := true, apart := false }
def RadixPlaysSaid : Prop := radixPlaysRow.holds Try.pinned (OpenSpec.ofChange radixPlaysSpec)

/-- ITS FALSE NEIGHBOUR: 'it returns false'. Refute it at one input. -/
def radixPlaysWrong : ChangeSpec := { name := "radixPlays", fn := fun _ => fun
  | [d] => { results := [.lit (.bool false)], args := [d] }
  | _ => none }
def RadixPlaysWrongFalsely : Prop := radixPlaysRow.holds Try.pinned (OpenSpec.ofChange radixPlaysWrong)

/-- 'almanaclaw11.RadixAny': WHATEVER THE INPUT: true; the input reads as it did. -/
def radixAnySpec : ChangeSpec := { name := "radixAny", fn := fun _ => fun
  | [d1, d2, d3, d4, d5] => { results := [.lit (.bool true)], args := [d1, d2, d3, d4, d5] }
  | _ => none }
def radixAnyRow : OpenClaim := { program := "ytbmlggieifaniaa", sum := "58099c4ef362814026121f159940f8cf4161ff87c5501f6cad7a1f5687303ad1", func := "almanac/almanaclaw11.RadixAny", spec := "radixAny", unfollowed := true, recurses := true, apart := false }
def RadixAnySaid : Prop := radixAnyRow.holds Try.pinned (OpenSpec.ofChange radixAnySpec)

/-- ITS FALSE NEIGHBOUR: 'it returns false'. Refute it at one input. -/
def radixAnyWrong : ChangeSpec := { name := "radixAny", fn := fun _ => fun
  | [d1, d2, d3, d4, d5] => { results := [.lit (.bool false)], args := [d1, d2, d3, d4, d5] }
  | _ => none }
def RadixAnyWrongFalsely : Prop := radixAnyRow.holds Try.pinned (OpenSpec.ofChange radixAnyWrong)

/- THE SECOND FORM. 'bulk': how many values and letters a reading holds, each counted each time it is reached (what is shared counts as often as it is met; a slice's spare places count too). A statement '..UptoSaid' is the law's where the arguments, and the package variables that the reading takes, are together of bulk at most 1048576: NARROWER than '..Said'. Prove '..Said' where nothing that the law and all that it calls make is longer than what came in: it says more and counts as full. Else prove '..UptoSaid'. A law counts once. -/
mutual
def uptoBulk {H : Type} : DataW H → Nat
  | .lit (.string bytes) => bytes.length + 1
  | .lit _ => 1
  | .nil => 1
  | .ptr d => uptoBulk d + 1
  | .slice elems spare => uptoBulkAll elems + uptoBulkAll spare + 1
  | .agg parts => uptoBulkAll parts + 1
  | .iface _ d => uptoBulk d + 1
  | .map entries => uptoBulkEntries entries + 1
  | .held _ => 1
def uptoBulkAll {H : Type} : List (DataW H) → Nat
  | [] => 0
  | d :: r => uptoBulk d + uptoBulkAll r
def uptoBulkEntries {H : Type} : List (Lit × DataW H) → Nat
  | [] => 0
  | x :: r => uptoBulkEntry x + uptoBulkEntries r
def uptoBulkEntry {H : Type} : Lit × DataW H → Nat
  | (.string bytes, d) => bytes.length + uptoBulk d + 1
  | (_, d) => uptoBulk d + 1
 end
def uptoSmall : (H : Type) → List (DataW H) → Bool := fun _ ds => decide (uptoBulkAll ds ≤ 1048576)
def OpenSpec.upto (s : _root_.Go.ChangeSpec) : _root_.Go.OpenSpec := { _root_.Go.OpenSpec.ofChange s with cond := some uptoSmall }

/-- 'almanaclaw11.RadixFull', WHERE WHAT IT READS IS OF BULK AT MOST 1048576: true; the input reads as it did. -/
def radixFullUptoRow : OpenClaim := { program := "ytbmlggieifaniaa", sum := "58099c4ef362814026121f159940f8cf4161ff87c5501f6cad7a1f5687303ad1", func := "almanac/almanaclaw11.RadixFull", spec := "radixFull", unfollowed := true, recurses := true, apart := false, narrowed := true }
def RadixFullUptoSaid : Prop := radixFullUptoRow.holds Try.pinned (OpenSpec.upto radixFullSpec)

/-- 'almanaclaw11.RadixOrders', WHERE WHAT IT READS IS OF BULK AT MOST 1048576: true; the input reads as it did. -/
def radixOrdersUptoRow : OpenClaim := { program := "ytbmlggieifaniaa", sum := "58099c4ef362814026121f159940f8cf4161ff87c5501f6cad7a1f5687303ad1", func := "almanac/almanaclaw11.RadixOrders", spec := "radixOrders", unfollowed := true, recurses := true, apart := false, narrowed := true }
def RadixOrdersUptoSaid : Prop := radixOrdersUptoRow.holds Try.pinned (OpenSpec.upto radixOrdersSpec)

/-- 'almanaclaw11.RadixEmpties', WHERE WHAT IT READS IS OF BULK AT MOST 1048576: true; the input reads as it did. -/
def radixEmptiesUptoRow : OpenClaim := { program := "ytbmlggieifaniaa", sum := "58099c4ef362814026121f159940f8cf4161ff87c5501f6cad7a1f5687303ad1", func := "almanac/almanaclaw11.RadixEmpties", spec := "radixEmpties", unfollowed := true, recurses := true, apart := false, narrowed := true }
def RadixEmptiesUptoSaid : Prop := radixEmptiesUptoRow.holds Try.pinned (OpenSpec.upto radixEmptiesSpec)

/-- 'almanaclaw11.RadixPlays', WHERE WHAT IT READS IS OF BULK AT MOST 1048576: true; the input reads as it did. -/
def radixPlaysUptoRow : OpenClaim := { program := "ytbmlggieifaniaa", sum := "58099c4ef362814026121f159940f8cf4161ff87c5501f6cad7a1f5687303ad1", func := "almanac/almanaclaw11.RadixPlays", spec := "radixPlays", unfollowed := true, recurses := true, apart := false, narrowed := true }
def RadixPlaysUptoSaid : Prop := radixPlaysUptoRow.holds Try.pinned (OpenSpec.upto radixPlaysSpec)

/-- 'almanaclaw11.RadixAny', WHERE WHAT IT READS IS OF BULK AT MOST 1048576: true; the input reads as it did. -/
def radixAnyUptoRow : OpenClaim := { program := "ytbmlggieifaniaa", sum := "58099c4ef362814026121f159940f8cf4161ff87c5501f6cad7a1f5687303ad1", func := "almanac/almanaclaw11.RadixAny", spec := "radixAny", unfollowed := true, recurses := true, apart := false, narrowed := true }
def RadixAnyUptoSaid : Prop := radixAnyUptoRow.holds Try.pinned (OpenSpec.upto radixAnySpec)

end Rows
end Go.Proofs.Ytbmlggieifaniaa
