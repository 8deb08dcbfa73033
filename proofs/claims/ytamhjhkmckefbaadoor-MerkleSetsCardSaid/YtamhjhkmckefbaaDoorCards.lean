/-
  DERIVED. GIVEN WITH THE SEED: THE CARDS: each row of YtamhjhkmckefbaaDoorRows.lean that lists a variable, with what it lists TIED to the program's text (the seventh form; the later family's looks); each row that meets fmt, with fmt's text TOLD by the authors' own Lean function (tested against real Go, not proved from fmt's source: count such statements apart). THE CARD IS WHAT COUNTS. Prove the row's statement (the work); the ties are given (YtamhjhkmckefbaaDoorTie.lean); close each card by the builder's one call (the guide's Derived/Test/ToyasCard.lean, 'card_holds'). Laid BY PROGRAM, IN A SANDBOX (cutbox-door.mjs). By AI agents, Wed Nov 11 2026. No macro, syntax, notation, axiom, sorry.
-/
import Derived.Test.YtamhjhkmckefbaaDoorRows
import GoSem.ClaimSeven
namespace Go.Proofs.YtamhjhkmckefbaaDoor
namespace Rows

/-- THE TIED CARD OF 'casketlaw19.MerkleSets'. -/
def merkleSetsCard : Claim7 := { stood := { row := merkleSetsRow, standIns := [], harness := (true, "cc7f34d3d21b0cb07350f20e587d7cd6b40f4ecf1eddd18bf89e4776d267b4f5"), looks := false }, kinds := [], alts := [], laidByText := true, laidKinds := [.data, .data], laidTests := true, laidLooks := .later }
def MerkleSetsCardSaid : Prop := Claim7.holds Tryd.pinned (.plain (OpenSpec.ofChange merkleSetsSpec)) merkleSetsCard

/-- THE TIED CARD OF 'casketlaw19.MerkleOrders'. -/
def merkleOrdersCard : Claim7 := { stood := { row := merkleOrdersRow, standIns := [], harness := (true, "cc7f34d3d21b0cb07350f20e587d7cd6b40f4ecf1eddd18bf89e4776d267b4f5"), looks := false }, kinds := [], alts := [], laidByText := true, laidKinds := [.data, .data], laidTests := true, laidLooks := .later }
def MerkleOrdersCardSaid : Prop := Claim7.holds Tryd.pinned (.plain (OpenSpec.ofChange merkleOrdersSpec)) merkleOrdersCard

/-- THE TIED CARD OF 'casketlaw19.MerklePaths'. -/
def merklePathsCard : Claim7 := { stood := { row := merklePathsRow, standIns := [], harness := (true, "cc7f34d3d21b0cb07350f20e587d7cd6b40f4ecf1eddd18bf89e4776d267b4f5"), looks := false }, kinds := [], alts := [], laidByText := true, laidKinds := [.data, .data], laidTests := true, laidLooks := .later }
def MerklePathsCardSaid : Prop := Claim7.holds Tryd.pinned (.plain (OpenSpec.ofChange merklePathsSpec)) merklePathsCard

/-- THE SECOND FORM's CARD OF 'casketlaw19.MerkleSets'. -/
def merkleSetsUptoCard : Claim7 := { stood := { row := merkleSetsUptoRow, standIns := [], harness := (true, "cc7f34d3d21b0cb07350f20e587d7cd6b40f4ecf1eddd18bf89e4776d267b4f5"), looks := false }, kinds := [], alts := [], laidByText := true, laidKinds := [.data, .data], laidTests := true, laidLooks := .later }
def MerkleSetsUptoCardSaid : Prop := Claim7.holds Tryd.pinned (.plain (OpenSpec.upto merkleSetsSpec)) merkleSetsUptoCard

/-- THE SECOND FORM's CARD OF 'casketlaw19.MerkleOrders'. -/
def merkleOrdersUptoCard : Claim7 := { stood := { row := merkleOrdersUptoRow, standIns := [], harness := (true, "cc7f34d3d21b0cb07350f20e587d7cd6b40f4ecf1eddd18bf89e4776d267b4f5"), looks := false }, kinds := [], alts := [], laidByText := true, laidKinds := [.data, .data], laidTests := true, laidLooks := .later }
def MerkleOrdersUptoCardSaid : Prop := Claim7.holds Tryd.pinned (.plain (OpenSpec.upto merkleOrdersSpec)) merkleOrdersUptoCard

/-- THE SECOND FORM's CARD OF 'casketlaw19.MerklePaths'. -/
def merklePathsUptoCard : Claim7 := { stood := { row := merklePathsUptoRow, standIns := [], harness := (true, "cc7f34d3d21b0cb07350f20e587d7cd6b40f4ecf1eddd18bf89e4776d267b4f5"), looks := false }, kinds := [], alts := [], laidByText := true, laidKinds := [.data, .data], laidTests := true, laidLooks := .later }
def MerklePathsUptoCardSaid : Prop := Claim7.holds Tryd.pinned (.plain (OpenSpec.upto merklePathsSpec)) merklePathsUptoCard
end Rows
end Go.Proofs.YtamhjhkmckefbaaDoor
