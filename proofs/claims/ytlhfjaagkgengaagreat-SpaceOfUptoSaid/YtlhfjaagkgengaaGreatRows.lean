/-
  No cell of these rows narrows 'for every input' (looked for: loops, veiled, ifaces, maps, wideKeys, modest, calm, conditions, laid).
  DERIVED. THE GIVEN ROWS OF THIS SEAT. 9 by the template 'for every input the law returns true; each argument reads behind the call as it read before'; 0 by the template 'total and deterministic' (their statements: YtlhfjaagkgengaaGreatTotals.lean).
  GIVEN WITH THE SEED: the statements are not yours to turn. If you find one false, say at which input.
  Laid BY PROGRAM, IN A SANDBOX (cutbox-rows.mjs): the forced cells as the released guide's own fill.sh prints them over the translation bfdd3f3c0f9a4327… (all of the seat's roots in one cut). By AI agents, Wed Nov 11 2026. No macro, syntax, notation, axiom, sorry.
-/
import Derived.Test.YtlhfjaagkgengaaGreatChecked
import GoSem.Claim
import GoSem.ClaimJoined
import GoSem.ClaimMapViews
import Derived.JoinedTies
import Derived.KernelRfl
namespace Go.Proofs.YtlhfjaagkgengaaGreat
/- THE CELL 'sum', in the pinned program and in every row, IS THE sha256 OF THE DUMP (.gsa) THAT YtlhfjaagkgengaaGreatProg.lean LOADS. Nothing in Lean hashes anything: it is a label: what it is worth is what the hold of that sum in a sandbox is worth. -/
noncomputable def Tryz.pinned : Pinned := { name := "ytlhfjaagkgengaagreat", sum := "bfdd3f3c0f9a4327ff782880d12e3a8394e2a1c7b9756eb7e52a23248561e8e9", checked := Tryz.checked }
namespace Rows
def none {H : Type} : Left H := { results := [], args := [] }

/-- 'almanaclaw16.SpacePieces': WHATEVER THE INPUT: true; the input reads as it did. -/
def spacePiecesSpec : ChangeSpec := { name := "spacePieces", fn := fun _ => fun
  | [d1, d2, d3, d4] => { results := [.lit (.bool true)], args := [d1, d2, d3, d4] }
  | _ => none }
def spacePiecesRow : OpenClaim := { program := "ytlhfjaagkgengaagreat", sum := "bfdd3f3c0f9a4327ff782880d12e3a8394e2a1c7b9756eb7e52a23248561e8e9", func := "almanac/almanaclaw16.SpacePieces", spec := "spacePieces", unfollowed := true, recurses := true, plainKeys := false, apart := false }
def SpacePiecesSaid : Prop := spacePiecesRow.holds Tryz.pinned (OpenSpec.ofChange spacePiecesSpec)

/-- ITS FALSE NEIGHBOUR: 'it returns false'. Refute it at one input. -/
def spacePiecesWrong : ChangeSpec := { name := "spacePieces", fn := fun _ => fun
  | [d1, d2, d3, d4] => { results := [.lit (.bool false)], args := [d1, d2, d3, d4] }
  | _ => none }
def SpacePiecesWrongFalsely : Prop := spacePiecesRow.holds Tryz.pinned (OpenSpec.ofChange spacePiecesWrong)

/-- 'almanaclaw16.SpaceOf': WHATEVER THE INPUT: true; the input reads as it did. -/
def spaceOfSpec : ChangeSpec := { name := "spaceOf", fn := fun _ => fun
  | [d1, d2, d3, d4] => { results := [.lit (.bool true)], args := [d1, d2, d3, d4] }
  | _ => none }
def spaceOfRow : OpenClaim := { program := "ytlhfjaagkgengaagreat", sum := "bfdd3f3c0f9a4327ff782880d12e3a8394e2a1c7b9756eb7e52a23248561e8e9", func := "almanac/almanaclaw16.SpaceOf", spec := "spaceOf", unfollowed := true, recurses := true, plainKeys := false, apart := false }
def SpaceOfSaid : Prop := spaceOfRow.holds Tryz.pinned (OpenSpec.ofChange spaceOfSpec)

/-- ITS FALSE NEIGHBOUR: 'it returns false'. Refute it at one input. -/
def spaceOfWrong : ChangeSpec := { name := "spaceOf", fn := fun _ => fun
  | [d1, d2, d3, d4] => { results := [.lit (.bool false)], args := [d1, d2, d3, d4] }
  | _ => none }
def SpaceOfWrongFalsely : Prop := spaceOfRow.holds Tryz.pinned (OpenSpec.ofChange spaceOfWrong)

/-- 'almanaclaw16.SpacePlays': WHATEVER THE INPUT: true; the input reads as it did. -/
def spacePlaysSpec : ChangeSpec := { name := "spacePlays", fn := fun _ => fun
  | [d1, d2, d3] => { results := [.lit (.bool true)], args := [d1, d2, d3] }
  | _ => none }
def spacePlaysRow : OpenClaim := { program := "ytlhfjaagkgengaagreat", sum := "bfdd3f3c0f9a4327ff782880d12e3a8394e2a1c7b9756eb7e52a23248561e8e9", func := "almanac/almanaclaw16.SpacePlays", spec := "spacePlays", unfollowed := true, recurses := true, plainKeys := false, apart := false }
def SpacePlaysSaid : Prop := spacePlaysRow.holds Tryz.pinned (OpenSpec.ofChange spacePlaysSpec)

/-- ITS FALSE NEIGHBOUR: 'it returns false'. Refute it at one input. -/
def spacePlaysWrong : ChangeSpec := { name := "spacePlays", fn := fun _ => fun
  | [d1, d2, d3] => { results := [.lit (.bool false)], args := [d1, d2, d3] }
  | _ => none }
def SpacePlaysWrongFalsely : Prop := spacePlaysRow.holds Tryz.pinned (OpenSpec.ofChange spacePlaysWrong)

/-- 'almanaclaw16.SpaceShares': WHATEVER THE INPUT: true; the input reads as it did. -/
def spaceSharesSpec : ChangeSpec := { name := "spaceShares", fn := fun _ => fun
  | [d1, d2, d3, d4] => { results := [.lit (.bool true)], args := [d1, d2, d3, d4] }
  | _ => none }
def spaceSharesRow : OpenClaim := { program := "ytlhfjaagkgengaagreat", sum := "bfdd3f3c0f9a4327ff782880d12e3a8394e2a1c7b9756eb7e52a23248561e8e9", func := "almanac/almanaclaw16.SpaceShares", spec := "spaceShares", unfollowed := true, recurses := true, plainKeys := false, apart := false }
def SpaceSharesSaid : Prop := spaceSharesRow.holds Tryz.pinned (OpenSpec.ofChange spaceSharesSpec)

/-- ITS FALSE NEIGHBOUR: 'it returns false'. Refute it at one input. -/
def spaceSharesWrong : ChangeSpec := { name := "spaceShares", fn := fun _ => fun
  | [d1, d2, d3, d4] => { results := [.lit (.bool false)], args := [d1, d2, d3, d4] }
  | _ => none }
def SpaceSharesWrongFalsely : Prop := spaceSharesRow.holds Tryz.pinned (OpenSpec.ofChange spaceSharesWrong)

/-- 'almanaclaw19.LiveFrames': WHATEVER THE INPUT: true; the input reads as it did. -/
def liveFramesSpec : ChangeSpec := { name := "liveFrames", fn := fun _ => fun
  | [d1, d2, d3] => { results := [.lit (.bool true)], args := [d1, d2, d3] }
  | _ => none }
def liveFramesRow : OpenClaim := { program := "ytlhfjaagkgengaagreat", sum := "bfdd3f3c0f9a4327ff782880d12e3a8394e2a1c7b9756eb7e52a23248561e8e9", func := "almanac/almanaclaw19.LiveFrames", spec := "liveFrames", unfollowed := true, recurses := true, plainKeys := false, apart := false }
def LiveFramesSaid : Prop := liveFramesRow.holds Tryz.pinned (OpenSpec.ofChange liveFramesSpec)

/-- ITS FALSE NEIGHBOUR: 'it returns false'. Refute it at one input. -/
def liveFramesWrong : ChangeSpec := { name := "liveFrames", fn := fun _ => fun
  | [d1, d2, d3] => { results := [.lit (.bool false)], args := [d1, d2, d3] }
  | _ => none }
def LiveFramesWrongFalsely : Prop := liveFramesRow.holds Tryz.pinned (OpenSpec.ofChange liveFramesWrong)

/-- 'almanaclaw19.LiveThaws': WHATEVER THE INPUT: true; the input reads as it did. -/
def liveThawsSpec : ChangeSpec := { name := "liveThaws", fn := fun _ => fun
  | [d1, d2, d3] => { results := [.lit (.bool true)], args := [d1, d2, d3] }
  | _ => none }
def liveThawsRow : OpenClaim := { program := "ytlhfjaagkgengaagreat", sum := "bfdd3f3c0f9a4327ff782880d12e3a8394e2a1c7b9756eb7e52a23248561e8e9", func := "almanac/almanaclaw19.LiveThaws", spec := "liveThaws", unfollowed := true, recurses := true, plainKeys := false, apart := false }
def LiveThawsSaid : Prop := liveThawsRow.holds Tryz.pinned (OpenSpec.ofChange liveThawsSpec)

/-- ITS FALSE NEIGHBOUR: 'it returns false'. Refute it at one input. -/
def liveThawsWrong : ChangeSpec := { name := "liveThaws", fn := fun _ => fun
  | [d1, d2, d3] => { results := [.lit (.bool false)], args := [d1, d2, d3] }
  | _ => none }
def LiveThawsWrongFalsely : Prop := liveThawsRow.holds Tryz.pinned (OpenSpec.ofChange liveThawsWrong)

/-- 'almanaclaw19.LivePlays': WHATEVER THE INPUT: true; the input reads as it did. -/
def livePlaysSpec : ChangeSpec := { name := "livePlays", fn := fun _ => fun
  | [d1, d2, d3] => { results := [.lit (.bool true)], args := [d1, d2, d3] }
  | _ => none }
def livePlaysRow : OpenClaim := { program := "ytlhfjaagkgengaagreat", sum := "bfdd3f3c0f9a4327ff782880d12e3a8394e2a1c7b9756eb7e52a23248561e8e9", func := "almanac/almanaclaw19.LivePlays", spec := "livePlays", unfollowed := true, recurses := true, plainKeys := false, apart := false }
def LivePlaysSaid : Prop := livePlaysRow.holds Tryz.pinned (OpenSpec.ofChange livePlaysSpec)

/-- ITS FALSE NEIGHBOUR: 'it returns false'. Refute it at one input. -/
def livePlaysWrong : ChangeSpec := { name := "livePlays", fn := fun _ => fun
  | [d1, d2, d3] => { results := [.lit (.bool false)], args := [d1, d2, d3] }
  | _ => none }
def LivePlaysWrongFalsely : Prop := livePlaysRow.holds Tryz.pinned (OpenSpec.ofChange livePlaysWrong)

/-- 'almanaclaw19.LiveShares': WHATEVER THE INPUT: true; the input reads as it did. -/
def liveSharesSpec : ChangeSpec := { name := "liveShares", fn := fun _ => fun
  | [d1, d2] => { results := [.lit (.bool true)], args := [d1, d2] }
  | _ => none }
def liveSharesRow : OpenClaim := { program := "ytlhfjaagkgengaagreat", sum := "bfdd3f3c0f9a4327ff782880d12e3a8394e2a1c7b9756eb7e52a23248561e8e9", func := "almanac/almanaclaw19.LiveShares", spec := "liveShares", unfollowed := true, recurses := true, plainKeys := false, apart := false }
def LiveSharesSaid : Prop := liveSharesRow.holds Tryz.pinned (OpenSpec.ofChange liveSharesSpec)

/-- ITS FALSE NEIGHBOUR: 'it returns false'. Refute it at one input. -/
def liveSharesWrong : ChangeSpec := { name := "liveShares", fn := fun _ => fun
  | [d1, d2] => { results := [.lit (.bool false)], args := [d1, d2] }
  | _ => none }
def LiveSharesWrongFalsely : Prop := liveSharesRow.holds Tryz.pinned (OpenSpec.ofChange liveSharesWrong)

/-- 'almanaclaw19.LiveOf': WHATEVER THE INPUT: true; the input reads as it did. -/
def liveOfSpec : ChangeSpec := { name := "liveOf", fn := fun _ => fun
  | [d1, d2, d3, d4] => { results := [.lit (.bool true)], args := [d1, d2, d3, d4] }
  | _ => none }
def liveOfRow : OpenClaim := { program := "ytlhfjaagkgengaagreat", sum := "bfdd3f3c0f9a4327ff782880d12e3a8394e2a1c7b9756eb7e52a23248561e8e9", func := "almanac/almanaclaw19.LiveOf", spec := "liveOf", unfollowed := true, recurses := true, plainKeys := false, apart := false }
def LiveOfSaid : Prop := liveOfRow.holds Tryz.pinned (OpenSpec.ofChange liveOfSpec)

/-- ITS FALSE NEIGHBOUR: 'it returns false'. Refute it at one input. -/
def liveOfWrong : ChangeSpec := { name := "liveOf", fn := fun _ => fun
  | [d1, d2, d3, d4] => { results := [.lit (.bool false)], args := [d1, d2, d3, d4] }
  | _ => none }
def LiveOfWrongFalsely : Prop := liveOfRow.holds Tryz.pinned (OpenSpec.ofChange liveOfWrong)

/- THE SECOND FORM. 'bulk': how many values and letters a reading holds, each counted each time it is reached (what is shared counts as often as it is met; a slice's spare places count too). A statement '..UptoSaid' is the law's where the arguments, and the package variables that the reading takes, are together of bulk at most 1048576: NARROWER than '..Said'. Prove '..Said' where nothing that the law and all that it calls make is longer than what came in: it says more and counts as full. Else prove '..UptoSaid'. A law counts once. -/
mutual
def uptoBulk {H : Type} : DataW H → Nat
  | .lit (.string bytes) => bytes.length + 1
  | .lit _ => 1
  | .nil => 1
  | .ptr d => uptoBulk d + 1
  | .slice elems spare => uptoBulkAll elems + uptoBulkAll spare + 1
  | .agg parts => uptoBulkAll parts + 1
  | .iface _ d => uptoBulk d + 1
  | .map entries => uptoBulkEntries entries + 1
  | .held _ => 1
def uptoBulkAll {H : Type} : List (DataW H) → Nat
  | [] => 0
  | d :: r => uptoBulk d + uptoBulkAll r
def uptoBulkEntries {H : Type} : List (Lit × DataW H) → Nat
  | [] => 0
  | x :: r => uptoBulkEntry x + uptoBulkEntries r
def uptoBulkEntry {H : Type} : Lit × DataW H → Nat
  | (.string bytes, d) => bytes.length + uptoBulk d + 1
  | (_, d) => uptoBulk d + 1
 end
def uptoSmall : (H : Type) → List (DataW H) → Bool := fun _ ds => decide (uptoBulkAll ds ≤ 1048576)
def OpenSpec.upto (s : _root_.Go.ChangeSpec) : _root_.Go.OpenSpec := { _root_.Go.OpenSpec.ofChange s with cond := some uptoSmall }

/-- 'almanaclaw16.SpacePieces', WHERE WHAT IT READS IS OF BULK AT MOST 1048576: true; the input reads as it did. -/
def spacePiecesUptoRow : OpenClaim := { program := "ytlhfjaagkgengaagreat", sum := "bfdd3f3c0f9a4327ff782880d12e3a8394e2a1c7b9756eb7e52a23248561e8e9", func := "almanac/almanaclaw16.SpacePieces", spec := "spacePieces", unfollowed := true, recurses := true, plainKeys := false, apart := false, narrowed := true }
def SpacePiecesUptoSaid : Prop := spacePiecesUptoRow.holds Tryz.pinned (OpenSpec.upto spacePiecesSpec)

/-- 'almanaclaw16.SpaceOf', WHERE WHAT IT READS IS OF BULK AT MOST 1048576: true; the input reads as it did. -/
def spaceOfUptoRow : OpenClaim := { program := "ytlhfjaagkgengaagreat", sum := "bfdd3f3c0f9a4327ff782880d12e3a8394e2a1c7b9756eb7e52a23248561e8e9", func := "almanac/almanaclaw16.SpaceOf", spec := "spaceOf", unfollowed := true, recurses := true, plainKeys := false, apart := false, narrowed := true }
def SpaceOfUptoSaid : Prop := spaceOfUptoRow.holds Tryz.pinned (OpenSpec.upto spaceOfSpec)

/-- 'almanaclaw16.SpacePlays', WHERE WHAT IT READS IS OF BULK AT MOST 1048576: true; the input reads as it did. -/
def spacePlaysUptoRow : OpenClaim := { program := "ytlhfjaagkgengaagreat", sum := "bfdd3f3c0f9a4327ff782880d12e3a8394e2a1c7b9756eb7e52a23248561e8e9", func := "almanac/almanaclaw16.SpacePlays", spec := "spacePlays", unfollowed := true, recurses := true, plainKeys := false, apart := false, narrowed := true }
def SpacePlaysUptoSaid : Prop := spacePlaysUptoRow.holds Tryz.pinned (OpenSpec.upto spacePlaysSpec)

/-- 'almanaclaw16.SpaceShares', WHERE WHAT IT READS IS OF BULK AT MOST 1048576: true; the input reads as it did. -/
def spaceSharesUptoRow : OpenClaim := { program := "ytlhfjaagkgengaagreat", sum := "bfdd3f3c0f9a4327ff782880d12e3a8394e2a1c7b9756eb7e52a23248561e8e9", func := "almanac/almanaclaw16.SpaceShares", spec := "spaceShares", unfollowed := true, recurses := true, plainKeys := false, apart := false, narrowed := true }
def SpaceSharesUptoSaid : Prop := spaceSharesUptoRow.holds Tryz.pinned (OpenSpec.upto spaceSharesSpec)

/-- 'almanaclaw19.LiveFrames', WHERE WHAT IT READS IS OF BULK AT MOST 1048576: true; the input reads as it did. -/
def liveFramesUptoRow : OpenClaim := { program := "ytlhfjaagkgengaagreat", sum := "bfdd3f3c0f9a4327ff782880d12e3a8394e2a1c7b9756eb7e52a23248561e8e9", func := "almanac/almanaclaw19.LiveFrames", spec := "liveFrames", unfollowed := true, recurses := true, plainKeys := false, apart := false, narrowed := true }
def LiveFramesUptoSaid : Prop := liveFramesUptoRow.holds Tryz.pinned (OpenSpec.upto liveFramesSpec)

/-- 'almanaclaw19.LiveThaws', WHERE WHAT IT READS IS OF BULK AT MOST 1048576: true; the input reads as it did. -/
def liveThawsUptoRow : OpenClaim := { program := "ytlhfjaagkgengaagreat", sum := "bfdd3f3c0f9a4327ff782880d12e3a8394e2a1c7b9756eb7e52a23248561e8e9", func := "almanac/almanaclaw19.LiveThaws", spec := "liveThaws", unfollowed := true, recurses := true, plainKeys := false, apart := false, narrowed := true }
def LiveThawsUptoSaid : Prop := liveThawsUptoRow.holds Tryz.pinned (OpenSpec.upto liveThawsSpec)

/-- 'almanaclaw19.LivePlays', WHERE WHAT IT READS IS OF BULK AT MOST 1048576: true; the input reads as it did. -/
def livePlaysUptoRow : OpenClaim := { program := "ytlhfjaagkgengaagreat", sum := "bfdd3f3c0f9a4327ff782880d12e3a8394e2a1c7b9756eb7e52a23248561e8e9", func := "almanac/almanaclaw19.LivePlays", spec := "livePlays", unfollowed := true, recurses := true, plainKeys := false, apart := false, narrowed := true }
def LivePlaysUptoSaid : Prop := livePlaysUptoRow.holds Tryz.pinned (OpenSpec.upto livePlaysSpec)

/-- 'almanaclaw19.LiveShares', WHERE WHAT IT READS IS OF BULK AT MOST 1048576: true; the input reads as it did. -/
def liveSharesUptoRow : OpenClaim := { program := "ytlhfjaagkgengaagreat", sum := "bfdd3f3c0f9a4327ff782880d12e3a8394e2a1c7b9756eb7e52a23248561e8e9", func := "almanac/almanaclaw19.LiveShares", spec := "liveShares", unfollowed := true, recurses := true, plainKeys := false, apart := false, narrowed := true }
def LiveSharesUptoSaid : Prop := liveSharesUptoRow.holds Tryz.pinned (OpenSpec.upto liveSharesSpec)

/-- 'almanaclaw19.LiveOf', WHERE WHAT IT READS IS OF BULK AT MOST 1048576: true; the input reads as it did. -/
def liveOfUptoRow : OpenClaim := { program := "ytlhfjaagkgengaagreat", sum := "bfdd3f3c0f9a4327ff782880d12e3a8394e2a1c7b9756eb7e52a23248561e8e9", func := "almanac/almanaclaw19.LiveOf", spec := "liveOf", unfollowed := true, recurses := true, plainKeys := false, apart := false, narrowed := true }
def LiveOfUptoSaid : Prop := liveOfUptoRow.holds Tryz.pinned (OpenSpec.upto liveOfSpec)

end Rows
end Go.Proofs.YtlhfjaagkgengaaGreat
