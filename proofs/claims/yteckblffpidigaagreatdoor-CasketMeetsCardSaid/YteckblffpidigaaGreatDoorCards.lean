/-
  DERIVED. GIVEN WITH THE SEED: THE CARDS: each row of YteckblffpidigaaGreatDoorRows.lean that lists a variable, with what it lists TIED to the program's text (the seventh form; the later family's looks); each row that meets fmt, with fmt's text TOLD by the authors' own Lean function (tested against real Go, not proved from fmt's source: count such statements apart). THE CARD IS WHAT COUNTS. Prove the row's statement (the work); the ties are given (YteckblffpidigaaGreatDoorTie.lean); close each card by the builder's one call (the guide's Derived/Test/ToyasCard.lean, 'card_holds'). Laid BY PROGRAM, IN A SANDBOX (cutbox-door.mjs). By AI agents, Wed Nov 11 2026. No macro, syntax, notation, axiom, sorry.
-/
import Derived.Test.YteckblffpidigaaGreatDoorRows
import GoSem.ClaimSeven
namespace Go.Proofs.YteckblffpidigaaGreatDoor
namespace Rows

/-- THE TIED CARD OF 'caskettop.CasketMeets'. -/
def casketMeetsCard : Claim7 := { stood := { row := casketMeetsRow, standIns := [], harness := (true, "67630a96a86e2ea1a652a0ad9ca930b2530701378b9cc1d6b529958067c9202a"), looks := false }, kinds := [], alts := [], laidByText := true, laidKinds := [.data, .data], laidTests := true, laidLooks := .later }
def CasketMeetsCardSaid : Prop := Claim7.holds Tryz.pinned (.plain (OpenSpec.ofChange casketMeetsSpec)) casketMeetsCard

/-- THE SECOND FORM's CARD OF 'caskettop.CasketMeets'. -/
def casketMeetsUptoCard : Claim7 := { stood := { row := casketMeetsUptoRow, standIns := [], harness := (true, "67630a96a86e2ea1a652a0ad9ca930b2530701378b9cc1d6b529958067c9202a"), looks := false }, kinds := [], alts := [], laidByText := true, laidKinds := [.data, .data], laidTests := true, laidLooks := .later }
def CasketMeetsUptoCardSaid : Prop := Claim7.holds Tryz.pinned (.plain (OpenSpec.upto casketMeetsSpec)) casketMeetsUptoCard
end Rows
end Go.Proofs.YteckblffpidigaaGreatDoor
