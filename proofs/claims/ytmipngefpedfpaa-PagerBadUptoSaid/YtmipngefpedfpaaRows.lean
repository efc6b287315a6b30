/-
  No cell of these rows narrows 'for every input' (looked for: loops, veiled, ifaces, maps, wideKeys, modest, calm, conditions, laid).
  DERIVED. THE GIVEN ROWS OF THIS SEAT. 5 by the template 'for every input the law returns true; each argument reads behind the call as it read before'; 0 by the template 'total and deterministic' (their statements: YtmipngefpedfpaaTotals.lean).
  GIVEN WITH THE SEED: the statements are not yours to turn. If you find one false, say at which input.
  Laid BY PROGRAM, IN A SANDBOX (cutbox-rows.mjs): the forced cells as the released guide's own fill.sh prints them over the translation a4423beab546ca29… (all of the seat's roots in one cut). By AI agents, Wed Nov 11 2026. No macro, syntax, notation, axiom, sorry.
-/
import Derived.Test.YtmipngefpedfpaaChecked
import GoSem.Claim
import GoSem.ClaimJoined
import GoSem.ClaimMapViews
import Derived.JoinedTies
import Derived.KernelRfl
namespace Go.Proofs.Ytmipngefpedfpaa
/- THE CELL 'sum', in the pinned program and in every row, IS THE sha256 OF THE DUMP (.gsa) THAT YtmipngefpedfpaaProg.lean LOADS. Nothing in Lean hashes anything: it is a label: what it is worth is what the hold of that sum in a sandbox is worth. -/
noncomputable def Try.pinned : Pinned := { name := "ytmipngefpedfpaa", sum := "a4423beab546ca29fd7937c0cfed4c5a4d3bcc7a06a6b7f171f42a3e76aa70be", checked := Try.checked }
namespace Rows
def none {H : Type} : Left H := { results := [], args := [] }

/-- 'almanaclaw14.PagerCopies': WHATEVER THE INPUT: true; the input reads as it did. -/
def pagerCopiesSpec : ChangeSpec := { name := "pagerCopies", fn := fun _ => fun
  | [d1, d2, d3, d4, d5] => { results := [.lit (.bool true)], args := [d1, d2, d3, d4, d5] }
  | _ => none }
def pagerCopiesRow : OpenClaim := { program := "ytmipngefpedfpaa", sum := "a4423beab546ca29fd7937c0cfed4c5a4d3bcc7a06a6b7f171f42a3e76aa70be", func := "almanac/almanaclaw14.PagerCopies", spec := "pagerCopies", unfollowed := true, recurses := true, plainKeys := false, apart := false }
def PagerCopiesSaid : Prop := pagerCopiesRow.holds Try.pinned (OpenSpec.ofChange pagerCopiesSpec)

/-- ITS FALSE NEIGHBOUR: 'it returns false'. Refute it at one input. -/
def pagerCopiesWrong : ChangeSpec := { name := "pagerCopies", fn := fun _ => fun
  | [d1, d2, d3, d4, d5] => { results := [.lit (.bool false)], args := [d1, d2, d3, d4, d5] }
  | _ => none }
def PagerCopiesWrongFalsely : Prop := pagerCopiesRow.holds Try.pinned (OpenSpec.ofChange pagerCopiesWrong)

/-- 'almanaclaw14.PagerPuts': WHATEVER THE INPUT: true; the input reads as it did. -/
def pagerPutsSpec : ChangeSpec := { name := "pagerPuts", fn := fun _ => fun
  | [d1, d2, d3, d4] => { results := [.lit (.bool true)], args := [d1, d2, d3, d4] }
  | _ => none }
def pagerPutsRow : OpenClaim := { program := "ytmipngefpedfpaa", sum := "a4423beab546ca29fd7937c0cfed4c5a4d3bcc7a06a6b7f171f42a3e76aa70be", func := "almanac/almanaclaw14.PagerPuts", spec := "pagerPuts", unfollowed := true, recurses := true, plainKeys := false, apart := false }
def PagerPutsSaid : Prop := pagerPutsRow.holds Try.pinned (OpenSpec.ofChange pagerPutsSpec)

/-- ITS FALSE NEIGHBOUR: 'it returns false'. Refute it at one input. -/
def pagerPutsWrong : ChangeSpec := { name := "pagerPuts", fn := fun _ => fun
  | [d1, d2, d3, d4] => { results := [.lit (.bool false)], args := [d1, d2, d3, d4] }
  | _ => none }
def PagerPutsWrongFalsely : Prop := pagerPutsRow.holds Try.pinned (OpenSpec.ofChange pagerPutsWrong)

/-- 'almanaclaw14.PagerPlays': WHATEVER THE INPUT: true; the input reads as it did. -/
def pagerPlaysSpec : ChangeSpec := { name := "pagerPlays", fn := fun _ => fun
  | [d1, d2, d3] => { results := [.lit (.bool true)], args := [d1, d2, d3] }
  | _ => none }
def pagerPlaysRow : OpenClaim := { program := "ytmipngefpedfpaa", sum := "a4423beab546ca29fd7937c0cfed4c5a4d3bcc7a06a6b7f171f42a3e76aa70be", func := "almanac/almanaclaw14.PagerPlays", spec := "pagerPlays", unfollowed := true, recurses := true, plainKeys := false, apart := false }
def PagerPlaysSaid : Prop := pagerPlaysRow.holds Try.pinned (OpenSpec.ofChange pagerPlaysSpec)

/-- ITS FALSE NEIGHBOUR: 'it returns false'. Refute it at one input. -/
def pagerPlaysWrong : ChangeSpec := { name := "pagerPlays", fn := fun _ => fun
  | [d1, d2, d3] => { results := [.lit (.bool false)], args := [d1, d2, d3] }
  | _ => none }
def PagerPlaysWrongFalsely : Prop := pagerPlaysRow.holds Try.pinned (OpenSpec.ofChange pagerPlaysWrong)

/-- 'almanaclaw14.PagerFull': WHATEVER THE INPUT: true; the input reads as it did. -/
def pagerFullSpec : ChangeSpec := { name := "pagerFull", fn := fun _ => fun
  | [d1, d2, d3, d4, d5] => { results := [.lit (.bool true)], args := [d1, d2, d3, d4, d5] }
  | _ => none }
def pagerFullRow : OpenClaim := { program := "ytmipngefpedfpaa", sum := "a4423beab546ca29fd7937c0cfed4c5a4d3bcc7a06a6b7f171f42a3e76aa70be", func := "almanac/almanaclaw14.PagerFull", spec := "pagerFull", unfollowed := true, recurses := true, plainKeys := false, apart := false }
def PagerFullSaid : Prop := pagerFullRow.holds Try.pinned (OpenSpec.ofChange pagerFullSpec)

/-- ITS FALSE NEIGHBOUR: 'it returns false'. Refute it at one input. -/
def pagerFullWrong : ChangeSpec := { name := "pagerFull", fn := fun _ => fun
  | [d1, d2, d3, d4, d5] => { results := [.lit (.bool false)], args := [d1, d2, d3, d4, d5] }
  | _ => none }
def PagerFullWrongFalsely : Prop := pagerFullRow.holds Try.pinned (OpenSpec.ofChange pagerFullWrong)

/-- 'almanaclaw14.PagerBad': WHATEVER THE INPUT: true; the input reads as it did. -/
def pagerBadSpec : ChangeSpec := { name := "pagerBad", fn := fun _ => fun
  | [d1, d2, d3] => { results := [.lit (.bool true)], args := [d1, d2, d3] }
  | _ => none }
def pagerBadRow : OpenClaim := { program := "ytmipngefpedfpaa", sum := "a4423beab546ca29fd7937c0cfed4c5a4d3bcc7a06a6b7f171f42a3e76aa70be", func := "almanac/almanaclaw14.PagerBad", spec := "pagerBad", unfollowed := true, recurses := true, plainKeys := false, apart := false }
def PagerBadSaid : Prop := pagerBadRow.holds Try.pinned (OpenSpec.ofChange pagerBadSpec)

/-- ITS FALSE NEIGHBOUR: 'it returns false'. Refute it at one input. -/
def pagerBadWrong : ChangeSpec := { name := "pagerBad", fn := fun _ => fun
  | [d1, d2, d3] => { results := [.lit (.bool false)], args := [d1, d2, d3] }
  | _ => none }
def PagerBadWrongFalsely : Prop := pagerBadRow.holds Try.pinned (OpenSpec.ofChange pagerBadWrong)

/- THE SECOND FORM. 'bulk': how many values and letters a reading holds, each counted each time it is reached (what is shared counts as often as it is met; a slice's spare places count too). A statement '..UptoSaid' is the law's where the arguments, and the package variables that the reading takes, are together of bulk at most 1048576: NARROWER than '..Said'. Prove '..Said' where nothing that the law and all that it calls make is longer than what came in: it says more and counts as full. Else prove '..UptoSaid'. A law counts once. -/
mutual
def uptoBulk {H : Type} : DataW H → Nat
  | .lit (.string bytes) => bytes.length + 1
  | .lit _ => 1
  | .nil => 1
  | .ptr d => uptoBulk d + 1
  | .slice elems spare => uptoBulkAll elems + uptoBulkAll spare + 1
  | .agg parts => uptoBulkAll parts + 1
  | .iface _ d => uptoBulk d + 1
  | .map entries => uptoBulkEntries entries + 1
  | .held _ => 1
def uptoBulkAll {H : Type} : List (DataW H) → Nat
  | [] => 0
  | d :: r => uptoBulk d + uptoBulkAll r
def uptoBulkEntries {H : Type} : List (Lit × DataW H) → Nat
  | [] => 0
  | x :: r => uptoBulkEntry x + uptoBulkEntries r
def uptoBulkEntry {H : Type} : Lit × DataW H → Nat
  | (.string bytes, d) => bytes.length + uptoBulk d + 1
  | (_, d) => uptoBulk d + 1
 end
def uptoSmall : (H : Type) → List (DataW H) → Bool := fun _ ds => decide (uptoBulkAll ds ≤ 1048576)
def OpenSpec.upto (s : _root_.Go.ChangeSpec) : _root_.Go.OpenSpec := { _root_.Go.OpenSpec.ofChange s with cond := some uptoSmall }

/-- 'almanaclaw14.PagerCopies', WHERE WHAT IT READS IS OF BULK AT MOST 1048576: true; the input reads as it did. -/
def pagerCopiesUptoRow : OpenClaim := { program := "ytmipngefpedfpaa", sum := "a4423beab546ca29fd7937c0cfed4c5a4d3bcc7a06a6b7f171f42a3e76aa70be", func := "almanac/almanaclaw14.PagerCopies", spec := "pagerCopies", unfollowed := true, recurses := true, plainKeys := false, apart := false, narrowed := true }
def PagerCopiesUptoSaid : Prop := pagerCopiesUptoRow.holds Try.pinned (OpenSpec.upto pagerCopiesSpec)

/-- 'almanaclaw14.PagerPuts', WHERE WHAT IT READS IS OF BULK AT MOST 1048576: true; the input reads as it did. -/
def pagerPutsUptoRow : OpenClaim := { program := "ytmipngefpedfpaa", sum := "a4423beab546ca29fd7937c0cfed4c5a4d3bcc7a06a6b7f171f42a3e76aa70be", func := "almanac/almanaclaw14.PagerPuts", spec := "pagerPuts", unfollowed := true, recurses := true, plainKeys := false, apart := false, narrowed := true }
def PagerPutsUptoSaid : Prop := pagerPutsUptoRow.holds Try.pinned (OpenSpec.upto pagerPutsSpec)

/-- 'almanaclaw14.PagerPlays', WHERE WHAT IT READS IS OF BULK AT MOST 1048576: true; the input reads as it did. -/
def pagerPlaysUptoRow : OpenClaim := { program := "ytmipngefpedfpaa", sum := "a4423beab546ca29fd7937c0cfed4c5a4d3bcc7a06a6b7f171f42a3e76aa70be", func := "almanac/almanaclaw14.PagerPlays", spec := "pagerPlays", unfollowed := true, recurses := true, plainKeys := false, apart := false, narrowed := true }
def PagerPlaysUptoSaid : Prop := pagerPlaysUptoRow.holds Try.pinned (OpenSpec.upto pagerPlaysSpec)

/-- 'almanaclaw14.PagerFull', WHERE WHAT IT READS IS OF BULK AT MOST 1048576: true; the input reads as it did. -/
def pagerFullUptoRow : OpenClaim := { program := "ytmipngefpedfpaa", sum := "a4423beab546ca29fd7937c0cfed4c5a4d3bcc7a06a6b7f171f42a3e76aa70be", func := "almanac/almanaclaw14.PagerFull", spec := "pagerFull", unfollowed := true, recurses := true, plainKeys := false, apart := false, narrowed := true }
def PagerFullUptoSaid : Prop := pagerFullUptoRow.holds Try.pinned (OpenSpec.upto pagerFullSpec)

/-- 'almanaclaw14.PagerBad', WHERE WHAT IT READS IS OF BULK AT MOST 1048576: true; the input reads as it did. -/
def pagerBadUptoRow : OpenClaim := { program := "ytmipngefpedfpaa", sum := "a4423beab546ca29fd7937c0cfed4c5a4d3bcc7a06a6b7f171f42a3e76aa70be", func := "almanac/almanaclaw14.PagerBad", spec := "pagerBad", unfollowed := true, recurses := true, plainKeys := false, apart := false, narrowed := true }
def PagerBadUptoSaid : Prop := pagerBadUptoRow.holds Try.pinned (OpenSpec.upto pagerBadSpec)

end Rows
end Go.Proofs.Ytmipngefpedfpaa
