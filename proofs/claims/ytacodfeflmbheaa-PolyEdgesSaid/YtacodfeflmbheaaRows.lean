/-
  No cell of these rows narrows 'for every input' (looked for: loops, veiled, ifaces, maps, wideKeys, modest, calm, conditions, laid).
  DERIVED. THE GIVEN ROWS OF THIS SEAT. 6 by the template 'for every input the law returns true; each argument reads behind the call as it read before'; 0 by the template 'total and deterministic' (their statements: YtacodfeflmbheaaTotals.lean).
  GIVEN WITH THE SEED: the statements are not yours to turn. If you find one false, say at which input.
  Laid BY PROGRAM, IN A SANDBOX (cutbox-rows.mjs): the forced cells as the released guide's own fill.sh prints them over the translation 301264a83b6d989a… (all of the seat's roots in one cut). By AI agents, Wed Nov 11 2026. No macro, syntax, notation, axiom, sorry.
-/
import Derived.Test.YtacodfeflmbheaaChecked
import GoSem.Claim
import GoSem.ClaimJoined
import GoSem.ClaimMapViews
import Derived.JoinedTies
import Derived.KernelRfl
namespace Go.Proofs.Ytacodfeflmbheaa
/- THE CELL 'sum', in the pinned program and in every row, IS THE sha256 OF THE DUMP (.gsa) THAT YtacodfeflmbheaaProg.lean LOADS. Nothing in Lean hashes anything: it is a label: what it is worth is what the hold of that sum in a sandbox is worth. -/
noncomputable def Try.pinned : Pinned := { name := "ytacodfeflmbheaa", sum := "301264a83b6d989a31b15f169a26063aa4ae11007806d11c91e40f7f6c6ee205", checked := Try.checked }
namespace Rows
def none {H : Type} : Left H := { results := [], args := [] }

/-- 'casketlaw06.PolyTags': WHATEVER THE INPUT: true; the input reads as it did. -/
def polyTagsSpec : ChangeSpec := { name := "polyTags", fn := fun _ => fun
  | [d1, d2] => { results := [.lit (.bool true)], args := [d1, d2] }
  | _ => none }
def polyTagsRow : OpenClaim := { program := "ytacodfeflmbheaa", sum := "301264a83b6d989a31b15f169a26063aa4ae11007806d11c91e40f7f6c6ee205", func := "casket/casketlaw06.PolyTags", spec := "polyTags", apart := false }
def PolyTagsSaid : Prop := polyTagsRow.holds Try.pinned (OpenSpec.ofChange polyTagsSpec)

/-- ITS FALSE NEIGHBOUR: 'it returns false'. Refute it at one input. -/
def polyTagsWrong : ChangeSpec := { name := "polyTags", fn := fun _ => fun
  | [d1, d2] => { results := [.lit (.bool false)], args := [d1, d2] }
  | _ => none }
def PolyTagsWrongFalsely : Prop := polyTagsRow.holds Try.pinned (OpenSpec.ofChange polyTagsWrong)

/-- 'casketlaw06.PolyEdges': WHATEVER THE INPUT: true; the input reads as it did. -/
def polyEdgesSpec : ChangeSpec := { name := "polyEdges", fn := fun _ => fun
  | [d1, d2, d3] => { results := [.lit (.bool true)], args := [d1, d2, d3] }
  | _ => none }
def polyEdgesRow : OpenClaim := { program := "ytacodfeflmbheaa", sum := "301264a83b6d989a31b15f169a26063aa4ae11007806d11c91e40f7f6c6ee205", func := "casket/casketlaw06.PolyEdges", spec := "polyEdges", apart := false }
def PolyEdgesSaid : Prop := polyEdgesRow.holds Try.pinned (OpenSpec.ofChange polyEdgesSpec)

/-- ITS FALSE NEIGHBOUR: 'it returns false'. Refute it at one input. -/
def polyEdgesWrong : ChangeSpec := { name := "polyEdges", fn := fun _ => fun
  | [d1, d2, d3] => { results := [.lit (.bool false)], args := [d1, d2, d3] }
  | _ => none }
def PolyEdgesWrongFalsely : Prop := polyEdgesRow.holds Try.pinned (OpenSpec.ofChange polyEdgesWrong)

/-- 'casketlaw06.PolyKnown': WHATEVER THE INPUT: true; the input reads as it did. -/
def polyKnownSpec : ChangeSpec := { name := "polyKnown", fn := fun _ => fun
  | [d] => { results := [.lit (.bool true)], args := [d] }
  | _ => none }
def polyKnownRow : OpenClaim := { program := "ytacodfeflmbheaa", sum := "301264a83b6d989a31b15f169a26063aa4ae11007806d11c91e40f7f6c6ee205", func := "casket/casketlaw06.PolyKnown", spec := "polyKnown", apart := false }
def PolyKnownSaid : Prop := polyKnownRow.holds Try.pinned (OpenSpec.ofChange polyKnownSpec)

/-- ITS FALSE NEIGHBOUR: 'it returns false'. Refute it at one input. -/
def polyKnownWrong : ChangeSpec := { name := "polyKnown", fn := fun _ => fun
  | [d] => { results := [.lit (.bool false)], args := [d] }
  | _ => none }
def PolyKnownWrongFalsely : Prop := polyKnownRow.holds Try.pinned (OpenSpec.ofChange polyKnownWrong)

/-- 'casketlaw06.PolySums': WHATEVER THE INPUT: true; the input reads as it did. -/
def polySumsSpec : ChangeSpec := { name := "polySums", fn := fun _ => fun
  | [d1, d2, d3] => { results := [.lit (.bool true)], args := [d1, d2, d3] }
  | _ => none }
def polySumsRow : OpenClaim := { program := "ytacodfeflmbheaa", sum := "301264a83b6d989a31b15f169a26063aa4ae11007806d11c91e40f7f6c6ee205", func := "casket/casketlaw06.PolySums", spec := "polySums", apart := false }
def PolySumsSaid : Prop := polySumsRow.holds Try.pinned (OpenSpec.ofChange polySumsSpec)

/-- ITS FALSE NEIGHBOUR: 'it returns false'. Refute it at one input. -/
def polySumsWrong : ChangeSpec := { name := "polySums", fn := fun _ => fun
  | [d1, d2, d3] => { results := [.lit (.bool false)], args := [d1, d2, d3] }
  | _ => none }
def PolySumsWrongFalsely : Prop := polySumsRow.holds Try.pinned (OpenSpec.ofChange polySumsWrong)

/-- 'casketlaw06.PolyNought': WHATEVER THE INPUT: true; the input reads as it did. -/
def polyNoughtSpec : ChangeSpec := { name := "polyNought", fn := fun _ => fun
  | [d1, d2] => { results := [.lit (.bool true)], args := [d1, d2] }
  | _ => none }
def polyNoughtRow : OpenClaim := { program := "ytacodfeflmbheaa", sum := "301264a83b6d989a31b15f169a26063aa4ae11007806d11c91e40f7f6c6ee205", func := "casket/casketlaw06.PolyNought", spec := "polyNought", apart := false }
def PolyNoughtSaid : Prop := polyNoughtRow.holds Try.pinned (OpenSpec.ofChange polyNoughtSpec)

/-- ITS FALSE NEIGHBOUR: 'it returns false'. Refute it at one input. -/
def polyNoughtWrong : ChangeSpec := { name := "polyNought", fn := fun _ => fun
  | [d1, d2] => { results := [.lit (.bool false)], args := [d1, d2] }
  | _ => none }
def PolyNoughtWrongFalsely : Prop := polyNoughtRow.holds Try.pinned (OpenSpec.ofChange polyNoughtWrong)

/-- 'casketlaw06.PolyBlocks': WHATEVER THE INPUT: true; the input reads as it did. -/
def polyBlocksSpec : ChangeSpec := { name := "polyBlocks", fn := fun _ => fun
  | [d1, d2] => { results := [.lit (.bool true)], args := [d1, d2] }
  | _ => none }
def polyBlocksRow : OpenClaim := { program := "ytacodfeflmbheaa", sum := "301264a83b6d989a31b15f169a26063aa4ae11007806d11c91e40f7f6c6ee205", func := "casket/casketlaw06.PolyBlocks", spec := "polyBlocks", apart := false }
def PolyBlocksSaid : Prop := polyBlocksRow.holds Try.pinned (OpenSpec.ofChange polyBlocksSpec)

/-- ITS FALSE NEIGHBOUR: 'it returns false'. Refute it at one input. -/
def polyBlocksWrong : ChangeSpec := { name := "polyBlocks", fn := fun _ => fun
  | [d1, d2] => { results := [.lit (.bool false)], args := [d1, d2] }
  | _ => none }
def PolyBlocksWrongFalsely : Prop := polyBlocksRow.holds Try.pinned (OpenSpec.ofChange polyBlocksWrong)

/- THE SECOND FORM. 'bulk': how many values and letters a reading holds, each counted each time it is reached (what is shared counts as often as it is met; a slice's spare places count too). A statement '..UptoSaid' is the law's where the arguments, and the package variables that the reading takes, are together of bulk at most 1048576: NARROWER than '..Said'. Prove '..Said' where nothing that the law and all that it calls make is longer than what came in: it says more and counts as full. Else prove '..UptoSaid'. A law counts once. -/
mutual
def uptoBulk {H : Type} : DataW H → Nat
  | .lit (.string bytes) => bytes.length + 1
  | .lit _ => 1
  | .nil => 1
  | .ptr d => uptoBulk d + 1
  | .slice elems spare => uptoBulkAll elems + uptoBulkAll spare + 1
  | .agg parts => uptoBulkAll parts + 1
  | .iface _ d => uptoBulk d + 1
  | .map entries => uptoBulkEntries entries + 1
  | .held _ => 1
def uptoBulkAll {H : Type} : List (DataW H) → Nat
  | [] => 0
  | d :: r => uptoBulk d + uptoBulkAll r
def uptoBulkEntries {H : Type} : List (Lit × DataW H) → Nat
  | [] => 0
  | x :: r => uptoBulkEntry x + uptoBulkEntries r
def uptoBulkEntry {H : Type} : Lit × DataW H → Nat
  | (.string bytes, d) => bytes.length + uptoBulk d + 1
  | (_, d) => uptoBulk d + 1
 end
def uptoSmall : (H : Type) → List (DataW H) → Bool := fun _ ds => decide (uptoBulkAll ds ≤ 1048576)
def OpenSpec.upto (s : _root_.Go.ChangeSpec) : _root_.Go.OpenSpec := { _root_.Go.OpenSpec.ofChange s with cond := some uptoSmall }

/-- 'casketlaw06.PolyTags', WHERE WHAT IT READS IS OF BULK AT MOST 1048576: true; the input reads as it did. -/
def polyTagsUptoRow : OpenClaim := { program := "ytacodfeflmbheaa", sum := "301264a83b6d989a31b15f169a26063aa4ae11007806d11c91e40f7f6c6ee205", func := "casket/casketlaw06.PolyTags", spec := "polyTags", apart := false, narrowed := true }
def PolyTagsUptoSaid : Prop := polyTagsUptoRow.holds Try.pinned (OpenSpec.upto polyTagsSpec)

/-- 'casketlaw06.PolyEdges', WHERE WHAT IT READS IS OF BULK AT MOST 1048576: true; the input reads as it did. -/
def polyEdgesUptoRow : OpenClaim := { program := "ytacodfeflmbheaa", sum := "301264a83b6d989a31b15f169a26063aa4ae11007806d11c91e40f7f6c6ee205", func := "casket/casketlaw06.PolyEdges", spec := "polyEdges", apart := false, narrowed := true }
def PolyEdgesUptoSaid : Prop := polyEdgesUptoRow.holds Try.pinned (OpenSpec.upto polyEdgesSpec)

/-- 'casketlaw06.PolyKnown', WHERE WHAT IT READS IS OF BULK AT MOST 1048576: true; the input reads as it did. -/
def polyKnownUptoRow : OpenClaim := { program := "ytacodfeflmbheaa", sum := "301264a83b6d989a31b15f169a26063aa4ae11007806d11c91e40f7f6c6ee205", func := "casket/casketlaw06.PolyKnown", spec := "polyKnown", apart := false, narrowed := true }
def PolyKnownUptoSaid : Prop := polyKnownUptoRow.holds Try.pinned (OpenSpec.upto polyKnownSpec)

/-- 'casketlaw06.PolySums', WHERE WHAT IT READS IS OF BULK AT MOST 1048576: true; the input reads as it did. -/
def polySumsUptoRow : OpenClaim := { program := "ytacodfeflmbheaa", sum := "301264a83b6d989a31b15f169a26063aa4ae11007806d11c91e40f7f6c6ee205", func := "casket/casketlaw06.PolySums", spec := "polySums", apart := false, narrowed := true }
def PolySumsUptoSaid : Prop := polySumsUptoRow.holds Try.pinned (OpenSpec.upto polySumsSpec)

/-- 'casketlaw06.PolyNought', WHERE WHAT IT READS IS OF BULK AT MOST 1048576: true; the input reads as it did. -/
def polyNoughtUptoRow : OpenClaim := { program := "ytacodfeflmbheaa", sum := "301264a83b6d989a31b15f169a26063aa4ae11007806d11c91e40f7f6c6ee205", func := "casket/casketlaw06.PolyNought", spec := "polyNought", apart := false, narrowed := true }
def PolyNoughtUptoSaid : Prop := polyNoughtUptoRow.holds Try.pinned (OpenSpec.upto polyNoughtSpec)

/-- 'casketlaw06.PolyBlocks', WHERE WHAT IT READS IS OF BULK AT MOST 1048576: true; the input reads as it did. -/
def polyBlocksUptoRow : OpenClaim := { program := "ytacodfeflmbheaa", sum := "301264a83b6d989a31b15f169a26063aa4ae11007806d11c91e40f7f6c6ee205", func := "casket/casketlaw06.PolyBlocks", spec := "polyBlocks", apart := false, narrowed := true }
def PolyBlocksUptoSaid : Prop := polyBlocksUptoRow.holds Try.pinned (OpenSpec.upto polyBlocksSpec)

end Rows
end Go.Proofs.Ytacodfeflmbheaa
