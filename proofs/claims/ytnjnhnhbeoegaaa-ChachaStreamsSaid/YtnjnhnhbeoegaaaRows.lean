/-
  No cell of these rows narrows 'for every input' (looked for: loops, veiled, ifaces, maps, wideKeys, modest, calm, conditions, laid).
  DERIVED. THE GIVEN ROWS OF THIS SEAT. 4 by the template 'for every input the law returns true; each argument reads behind the call as it read before'; 0 by the template 'total and deterministic' (their statements: YtnjnhnhbeoegaaaTotals.lean).
  GIVEN WITH THE SEED: the statements are not yours to turn. If you find one false, say at which input.
  Laid BY PROGRAM, IN A SANDBOX (cutbox-rows.mjs): the forced cells as the released guide's own fill.sh prints them over the translation 2bc6be3591a20a53… (all of the seat's roots in one cut). By AI agents, Wed Nov 11 2026. No macro, syntax, notation, axiom, sorry.
-/
import Derived.Test.YtnjnhnhbeoegaaaChecked
import GoSem.Claim
import GoSem.ClaimJoined
import GoSem.ClaimMapViews
import Derived.JoinedTies
import Derived.KernelRfl
namespace Go.Proofs.Ytnjnhnhbeoegaaa
/- THE CELL 'sum', in the pinned program and in every row, IS THE sha256 OF THE DUMP (.gsa) THAT YtnjnhnhbeoegaaaProg.lean LOADS. Nothing in Lean hashes anything: it is a label: what it is worth is what the hold of that sum in a sandbox is worth. -/
noncomputable def Try.pinned : Pinned := { name := "ytnjnhnhbeoegaaa", sum := "2bc6be3591a20a53628f2b40146bd7d5b47f65b59abf0365babf772a564a9396", checked := Try.checked }
namespace Rows
def none {H : Type} : Left H := { results := [], args := [] }

/-- 'casketlaw05.ChachaBlocks': WHATEVER THE INPUT: true; the input reads as it did. -/
def chachaBlocksSpec : ChangeSpec := { name := "chachaBlocks", fn := fun _ => fun
  | [d1, d2, d3] => { results := [.lit (.bool true)], args := [d1, d2, d3] }
  | _ => none }
def chachaBlocksRow : OpenClaim := { program := "ytnjnhnhbeoegaaa", sum := "2bc6be3591a20a53628f2b40146bd7d5b47f65b59abf0365babf772a564a9396", func := "casket/casketlaw05.ChachaBlocks", spec := "chachaBlocks", apart := false }
def ChachaBlocksSaid : Prop := chachaBlocksRow.holds Try.pinned (OpenSpec.ofChange chachaBlocksSpec)

/-- ITS FALSE NEIGHBOUR: 'it returns false'. Refute it at one input. -/
def chachaBlocksWrong : ChangeSpec := { name := "chachaBlocks", fn := fun _ => fun
  | [d1, d2, d3] => { results := [.lit (.bool false)], args := [d1, d2, d3] }
  | _ => none }
def ChachaBlocksWrongFalsely : Prop := chachaBlocksRow.holds Try.pinned (OpenSpec.ofChange chachaBlocksWrong)

/-- 'casketlaw05.ChachaKnown': WHATEVER THE INPUT: true; the input reads as it did. -/
def chachaKnownSpec : ChangeSpec := { name := "chachaKnown", fn := fun _ => fun
  | [d] => { results := [.lit (.bool true)], args := [d] }
  | _ => none }
def chachaKnownRow : OpenClaim := { program := "ytnjnhnhbeoegaaa", sum := "2bc6be3591a20a53628f2b40146bd7d5b47f65b59abf0365babf772a564a9396", func := "casket/casketlaw05.ChachaKnown", spec := "chachaKnown", apart := false }
def ChachaKnownSaid : Prop := chachaKnownRow.holds Try.pinned (OpenSpec.ofChange chachaKnownSpec)

/-- ITS FALSE NEIGHBOUR: 'it returns false'. Refute it at one input. -/
def chachaKnownWrong : ChangeSpec := { name := "chachaKnown", fn := fun _ => fun
  | [d] => { results := [.lit (.bool false)], args := [d] }
  | _ => none }
def ChachaKnownWrongFalsely : Prop := chachaKnownRow.holds Try.pinned (OpenSpec.ofChange chachaKnownWrong)

/-- 'casketlaw05.ChachaStreams': WHATEVER THE INPUT: true; the input reads as it did. -/
def chachaStreamsSpec : ChangeSpec := { name := "chachaStreams", fn := fun _ => fun
  | [d1, d2, d3] => { results := [.lit (.bool true)], args := [d1, d2, d3] }
  | _ => none }
def chachaStreamsRow : OpenClaim := { program := "ytnjnhnhbeoegaaa", sum := "2bc6be3591a20a53628f2b40146bd7d5b47f65b59abf0365babf772a564a9396", func := "casket/casketlaw05.ChachaStreams", spec := "chachaStreams", apart := false }
def ChachaStreamsSaid : Prop := chachaStreamsRow.holds Try.pinned (OpenSpec.ofChange chachaStreamsSpec)

/-- ITS FALSE NEIGHBOUR: 'it returns false'. Refute it at one input. -/
def chachaStreamsWrong : ChangeSpec := { name := "chachaStreams", fn := fun _ => fun
  | [d1, d2, d3] => { results := [.lit (.bool false)], args := [d1, d2, d3] }
  | _ => none }
def ChachaStreamsWrongFalsely : Prop := chachaStreamsRow.holds Try.pinned (OpenSpec.ofChange chachaStreamsWrong)

/-- 'casketlaw05.ChachaCounts': WHATEVER THE INPUT: true; the input reads as it did. -/
def chachaCountsSpec : ChangeSpec := { name := "chachaCounts", fn := fun _ => fun
  | [d1, d2, d3] => { results := [.lit (.bool true)], args := [d1, d2, d3] }
  | _ => none }
def chachaCountsRow : OpenClaim := { program := "ytnjnhnhbeoegaaa", sum := "2bc6be3591a20a53628f2b40146bd7d5b47f65b59abf0365babf772a564a9396", func := "casket/casketlaw05.ChachaCounts", spec := "chachaCounts", apart := false }
def ChachaCountsSaid : Prop := chachaCountsRow.holds Try.pinned (OpenSpec.ofChange chachaCountsSpec)

/-- ITS FALSE NEIGHBOUR: 'it returns false'. Refute it at one input. -/
def chachaCountsWrong : ChangeSpec := { name := "chachaCounts", fn := fun _ => fun
  | [d1, d2, d3] => { results := [.lit (.bool false)], args := [d1, d2, d3] }
  | _ => none }
def ChachaCountsWrongFalsely : Prop := chachaCountsRow.holds Try.pinned (OpenSpec.ofChange chachaCountsWrong)

/- THE SECOND FORM. 'bulk': how many values and letters a reading holds, each counted each time it is reached (what is shared counts as often as it is met; a slice's spare places count too). A statement '..UptoSaid' is the law's where the arguments, and the package variables that the reading takes, are together of bulk at most 1048576: NARROWER than '..Said'. Prove '..Said' where nothing that the law and all that it calls make is longer than what came in: it says more and counts as full. Else prove '..UptoSaid'. A law counts once. -/
mutual
def uptoBulk {H : Type} : DataW H → Nat
  | .lit (.string bytes) => bytes.length + 1
  | .lit _ => 1
  | .nil => 1
  | .ptr d => uptoBulk d + 1
  | .slice elems spare => uptoBulkAll elems + uptoBulkAll spare + 1
  | .agg parts => uptoBulkAll parts + 1
  | .iface _ d => uptoBulk d + 1
  | .map entries => uptoBulkEntries entries + 1
  | .held _ => 1
def uptoBulkAll {H : Type} : List (DataW H) → Nat
  | [] => 0
  | d :: r => uptoBulk d + uptoBulkAll r
def uptoBulkEntries {H : Type} : List (Lit × DataW H) → Nat
  | [] => 0
  | x :: r => uptoBulkEntry x + uptoBulkEntries r
def uptoBulkEntry {H : Type} : Lit × DataW H → Nat
  | (.string bytes, d) => bytes.length + uptoBulk d + 1
  | (_, d) => uptoBulk d + 1
 end
def uptoSmall : (H : Type) → List (DataW H) → Bool := fun _ ds => decide (uptoBulkAll ds ≤ 1048576)
def OpenSpec.upto (s : _root_.Go.ChangeSpec) : _root_.Go.OpenSpec := { _root_.Go.OpenSpec.ofChange s with cond := some uptoSmall }

/-- 'casketlaw05.ChachaBlocks', WHERE WHAT IT READS IS OF BULK AT MOST 1048576: true; the input reads as it did. -/
def chachaBlocksUptoRow : OpenClaim := { program := "ytnjnhnhbeoegaaa", sum := "2bc6be3591a20a53628f2b40146bd7d5b47f65b59abf0365babf772a564a9396", func := "casket/casketlaw05.ChachaBlocks", spec := "chachaBlocks", apart := false, narrowed := true }
def ChachaBlocksUptoSaid : Prop := chachaBlocksUptoRow.holds Try.pinned (OpenSpec.upto chachaBlocksSpec)

/-- 'casketlaw05.ChachaKnown', WHERE WHAT IT READS IS OF BULK AT MOST 1048576: true; the input reads as it did. -/
def chachaKnownUptoRow : OpenClaim := { program := "ytnjnhnhbeoegaaa", sum := "2bc6be3591a20a53628f2b40146bd7d5b47f65b59abf0365babf772a564a9396", func := "casket/casketlaw05.ChachaKnown", spec := "chachaKnown", apart := false, narrowed := true }
def ChachaKnownUptoSaid : Prop := chachaKnownUptoRow.holds Try.pinned (OpenSpec.upto chachaKnownSpec)

/-- 'casketlaw05.ChachaStreams', WHERE WHAT IT READS IS OF BULK AT MOST 1048576: true; the input reads as it did. -/
def chachaStreamsUptoRow : OpenClaim := { program := "ytnjnhnhbeoegaaa", sum := "2bc6be3591a20a53628f2b40146bd7d5b47f65b59abf0365babf772a564a9396", func := "casket/casketlaw05.ChachaStreams", spec := "chachaStreams", apart := false, narrowed := true }
def ChachaStreamsUptoSaid : Prop := chachaStreamsUptoRow.holds Try.pinned (OpenSpec.upto chachaStreamsSpec)

/-- 'casketlaw05.ChachaCounts', WHERE WHAT IT READS IS OF BULK AT MOST 1048576: true; the input reads as it did. -/
def chachaCountsUptoRow : OpenClaim := { program := "ytnjnhnhbeoegaaa", sum := "2bc6be3591a20a53628f2b40146bd7d5b47f65b59abf0365babf772a564a9396", func := "casket/casketlaw05.ChachaCounts", spec := "chachaCounts", apart := false, narrowed := true }
def ChachaCountsUptoSaid : Prop := chachaCountsUptoRow.holds Try.pinned (OpenSpec.upto chachaCountsSpec)

end Rows
end Go.Proofs.Ytnjnhnhbeoegaaa
