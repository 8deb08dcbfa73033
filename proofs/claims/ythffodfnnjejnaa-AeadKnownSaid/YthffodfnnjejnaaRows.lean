/-
  No cell of these rows narrows 'for every input' (looked for: loops, veiled, ifaces, maps, wideKeys, modest, calm, conditions, laid).
  DERIVED. THE GIVEN ROWS OF THIS SEAT. 5 by the template 'for every input the law returns true; each argument reads behind the call as it read before'; 0 by the template 'total and deterministic' (their statements: YthffodfnnjejnaaTotals.lean).
  GIVEN WITH THE SEED: the statements are not yours to turn. If you find one false, say at which input.
  Laid BY PROGRAM, IN A SANDBOX (cutbox-rows.mjs): the forced cells as the released guide's own fill.sh prints them over the translation edfeedbbd318b839… (all of the seat's roots in one cut). By AI agents, Wed Nov 11 2026. No macro, syntax, notation, axiom, sorry.
-/
import Derived.Test.YthffodfnnjejnaaChecked
import GoSem.Claim
import GoSem.ClaimJoined
import GoSem.ClaimMapViews
import Derived.JoinedTies
import Derived.KernelRfl
namespace Go.Proofs.Ythffodfnnjejnaa
/- THE CELL 'sum', in the pinned program and in every row, IS THE sha256 OF THE DUMP (.gsa) THAT YthffodfnnjejnaaProg.lean LOADS. Nothing in Lean hashes anything: it is a label: what it is worth is what the hold of that sum in a sandbox is worth. -/
noncomputable def Try.pinned : Pinned := { name := "ythffodfnnjejnaa", sum := "edfeedbbd318b8399b0b9f26b4a245dc57a10f003d050c1b4cd5a227c5b623ca", checked := Try.checked }
namespace Rows
def none {H : Type} : Left H := { results := [], args := [] }

/-- 'casketlaw07.AeadSeals': WHATEVER THE INPUT: true; the input reads as it did. -/
def aeadSealsSpec : ChangeSpec := { name := "aeadSeals", fn := fun _ => fun
  | [d1, d2, d3] => { results := [.lit (.bool true)], args := [d1, d2, d3] }
  | _ => none }
def aeadSealsRow : OpenClaim := { program := "ythffodfnnjejnaa", sum := "edfeedbbd318b8399b0b9f26b4a245dc57a10f003d050c1b4cd5a227c5b623ca", func := "casket/casketlaw07.AeadSeals", spec := "aeadSeals", apart := false }
def AeadSealsSaid : Prop := aeadSealsRow.holds Try.pinned (OpenSpec.ofChange aeadSealsSpec)

/-- ITS FALSE NEIGHBOUR: 'it returns false'. Refute it at one input. -/
def aeadSealsWrong : ChangeSpec := { name := "aeadSeals", fn := fun _ => fun
  | [d1, d2, d3] => { results := [.lit (.bool false)], args := [d1, d2, d3] }
  | _ => none }
def AeadSealsWrongFalsely : Prop := aeadSealsRow.holds Try.pinned (OpenSpec.ofChange aeadSealsWrong)

/-- 'casketlaw07.AeadOpens': WHATEVER THE INPUT: true; the input reads as it did. -/
def aeadOpensSpec : ChangeSpec := { name := "aeadOpens", fn := fun _ => fun
  | [d1, d2, d3] => { results := [.lit (.bool true)], args := [d1, d2, d3] }
  | _ => none }
def aeadOpensRow : OpenClaim := { program := "ythffodfnnjejnaa", sum := "edfeedbbd318b8399b0b9f26b4a245dc57a10f003d050c1b4cd5a227c5b623ca", func := "casket/casketlaw07.AeadOpens", spec := "aeadOpens", apart := false }
def AeadOpensSaid : Prop := aeadOpensRow.holds Try.pinned (OpenSpec.ofChange aeadOpensSpec)

/-- ITS FALSE NEIGHBOUR: 'it returns false'. Refute it at one input. -/
def aeadOpensWrong : ChangeSpec := { name := "aeadOpens", fn := fun _ => fun
  | [d1, d2, d3] => { results := [.lit (.bool false)], args := [d1, d2, d3] }
  | _ => none }
def AeadOpensWrongFalsely : Prop := aeadOpensRow.holds Try.pinned (OpenSpec.ofChange aeadOpensWrong)

/-- 'casketlaw07.AeadTag': WHATEVER THE INPUT: true; the input reads as it did. -/
def aeadTagSpec : ChangeSpec := { name := "aeadTag", fn := fun _ => fun
  | [d1, d2, d3] => { results := [.lit (.bool true)], args := [d1, d2, d3] }
  | _ => none }
def aeadTagRow : OpenClaim := { program := "ythffodfnnjejnaa", sum := "edfeedbbd318b8399b0b9f26b4a245dc57a10f003d050c1b4cd5a227c5b623ca", func := "casket/casketlaw07.AeadTag", spec := "aeadTag", apart := false }
def AeadTagSaid : Prop := aeadTagRow.holds Try.pinned (OpenSpec.ofChange aeadTagSpec)

/-- ITS FALSE NEIGHBOUR: 'it returns false'. Refute it at one input. -/
def aeadTagWrong : ChangeSpec := { name := "aeadTag", fn := fun _ => fun
  | [d1, d2, d3] => { results := [.lit (.bool false)], args := [d1, d2, d3] }
  | _ => none }
def AeadTagWrongFalsely : Prop := aeadTagRow.holds Try.pinned (OpenSpec.ofChange aeadTagWrong)

/-- 'casketlaw07.AeadKnown': WHATEVER THE INPUT: true; the input reads as it did. -/
def aeadKnownSpec : ChangeSpec := { name := "aeadKnown", fn := fun _ => fun
  | [d] => { results := [.lit (.bool true)], args := [d] }
  | _ => none }
def aeadKnownRow : OpenClaim := { program := "ythffodfnnjejnaa", sum := "edfeedbbd318b8399b0b9f26b4a245dc57a10f003d050c1b4cd5a227c5b623ca", func := "casket/casketlaw07.AeadKnown", spec := "aeadKnown", apart := false }
def AeadKnownSaid : Prop := aeadKnownRow.holds Try.pinned (OpenSpec.ofChange aeadKnownSpec)

/-- ITS FALSE NEIGHBOUR: 'it returns false'. Refute it at one input. -/
def aeadKnownWrong : ChangeSpec := { name := "aeadKnown", fn := fun _ => fun
  | [d] => { results := [.lit (.bool false)], args := [d] }
  | _ => none }
def AeadKnownWrongFalsely : Prop := aeadKnownRow.holds Try.pinned (OpenSpec.ofChange aeadKnownWrong)

/-- 'casketlaw07.AeadStreams': WHATEVER THE INPUT: true; the input reads as it did. -/
def aeadStreamsSpec : ChangeSpec := { name := "aeadStreams", fn := fun _ => fun
  | [d1, d2, d3] => { results := [.lit (.bool true)], args := [d1, d2, d3] }
  | _ => none }
def aeadStreamsRow : OpenClaim := { program := "ythffodfnnjejnaa", sum := "edfeedbbd318b8399b0b9f26b4a245dc57a10f003d050c1b4cd5a227c5b623ca", func := "casket/casketlaw07.AeadStreams", spec := "aeadStreams", apart := false }
def AeadStreamsSaid : Prop := aeadStreamsRow.holds Try.pinned (OpenSpec.ofChange aeadStreamsSpec)

/-- ITS FALSE NEIGHBOUR: 'it returns false'. Refute it at one input. -/
def aeadStreamsWrong : ChangeSpec := { name := "aeadStreams", fn := fun _ => fun
  | [d1, d2, d3] => { results := [.lit (.bool false)], args := [d1, d2, d3] }
  | _ => none }
def AeadStreamsWrongFalsely : Prop := aeadStreamsRow.holds Try.pinned (OpenSpec.ofChange aeadStreamsWrong)

/- THE SECOND FORM. 'bulk': how many values and letters a reading holds, each counted each time it is reached (what is shared counts as often as it is met; a slice's spare places count too). A statement '..UptoSaid' is the law's where the arguments, and the package variables that the reading takes, are together of bulk at most 1048576: NARROWER than '..Said'. Prove '..Said' where nothing that the law and all that it calls make is longer than what came in: it says more and counts as full. Else prove '..UptoSaid'. A law counts once. -/
mutual
def uptoBulk {H : Type} : DataW H → Nat
  | .lit (.string bytes) => bytes.length + 1
  | .lit _ => 1
  | .nil => 1
  | .ptr d => uptoBulk d + 1
  | .slice elems spare => uptoBulkAll elems + uptoBulkAll spare + 1
  | .agg parts => uptoBulkAll parts + 1
  | .iface _ d => uptoBulk d + 1
  | .map entries => uptoBulkEntries entries + 1
  | .held _ => 1
def uptoBulkAll {H : Type} : List (DataW H) → Nat
  | [] => 0
  | d :: r => uptoBulk d + uptoBulkAll r
def uptoBulkEntries {H : Type} : List (Lit × DataW H) → Nat
  | [] => 0
  | x :: r => uptoBulkEntry x + uptoBulkEntries r
def uptoBulkEntry {H : Type} : Lit × DataW H → Nat
  | (.string bytes, d) => bytes.length + uptoBulk d + 1
  | (_, d) => uptoBulk d + 1
 end
def uptoSmall : (H : Type) → List (DataW H) → Bool := fun _ ds => decide (uptoBulkAll ds ≤ 1048576)
def OpenSpec.upto (s : _root_.Go.ChangeSpec) : _root_.Go.OpenSpec := { _root_.Go.OpenSpec.ofChange s with cond := some uptoSmall }

/-- 'casketlaw07.AeadSeals', WHERE WHAT IT READS IS OF BULK AT MOST 1048576: true; the input reads as it did. -/
def aeadSealsUptoRow : OpenClaim := { program := "ythffodfnnjejnaa", sum := "edfeedbbd318b8399b0b9f26b4a245dc57a10f003d050c1b4cd5a227c5b623ca", func := "casket/casketlaw07.AeadSeals", spec := "aeadSeals", apart := false, narrowed := true }
def AeadSealsUptoSaid : Prop := aeadSealsUptoRow.holds Try.pinned (OpenSpec.upto aeadSealsSpec)

/-- 'casketlaw07.AeadOpens', WHERE WHAT IT READS IS OF BULK AT MOST 1048576: true; the input reads as it did. -/
def aeadOpensUptoRow : OpenClaim := { program := "ythffodfnnjejnaa", sum := "edfeedbbd318b8399b0b9f26b4a245dc57a10f003d050c1b4cd5a227c5b623ca", func := "casket/casketlaw07.AeadOpens", spec := "aeadOpens", apart := false, narrowed := true }
def AeadOpensUptoSaid : Prop := aeadOpensUptoRow.holds Try.pinned (OpenSpec.upto aeadOpensSpec)

/-- 'casketlaw07.AeadTag', WHERE WHAT IT READS IS OF BULK AT MOST 1048576: true; the input reads as it did. -/
def aeadTagUptoRow : OpenClaim := { program := "ythffodfnnjejnaa", sum := "edfeedbbd318b8399b0b9f26b4a245dc57a10f003d050c1b4cd5a227c5b623ca", func := "casket/casketlaw07.AeadTag", spec := "aeadTag", apart := false, narrowed := true }
def AeadTagUptoSaid : Prop := aeadTagUptoRow.holds Try.pinned (OpenSpec.upto aeadTagSpec)

/-- 'casketlaw07.AeadKnown', WHERE WHAT IT READS IS OF BULK AT MOST 1048576: true; the input reads as it did. -/
def aeadKnownUptoRow : OpenClaim := { program := "ythffodfnnjejnaa", sum := "edfeedbbd318b8399b0b9f26b4a245dc57a10f003d050c1b4cd5a227c5b623ca", func := "casket/casketlaw07.AeadKnown", spec := "aeadKnown", apart := false, narrowed := true }
def AeadKnownUptoSaid : Prop := aeadKnownUptoRow.holds Try.pinned (OpenSpec.upto aeadKnownSpec)

/-- 'casketlaw07.AeadStreams', WHERE WHAT IT READS IS OF BULK AT MOST 1048576: true; the input reads as it did. -/
def aeadStreamsUptoRow : OpenClaim := { program := "ythffodfnnjejnaa", sum := "edfeedbbd318b8399b0b9f26b4a245dc57a10f003d050c1b4cd5a227c5b623ca", func := "casket/casketlaw07.AeadStreams", spec := "aeadStreams", apart := false, narrowed := true }
def AeadStreamsUptoSaid : Prop := aeadStreamsUptoRow.holds Try.pinned (OpenSpec.upto aeadStreamsSpec)

end Rows
end Go.Proofs.Ythffodfnnjejnaa
