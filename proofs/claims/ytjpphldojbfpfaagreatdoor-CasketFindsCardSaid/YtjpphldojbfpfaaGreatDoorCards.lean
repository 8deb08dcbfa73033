/-
  DERIVED. GIVEN WITH THE SEED: THE CARDS: each row of YtjpphldojbfpfaaGreatDoorRows.lean that lists a variable, with what it lists TIED to the program's text (the seventh form; the later family's looks); each row that meets fmt, with fmt's text TOLD by the authors' own Lean function (tested against real Go, not proved from fmt's source: count such statements apart). THE CARD IS WHAT COUNTS. Prove the row's statement (the work); the ties are given (YtjpphldojbfpfaaGreatDoorTie.lean); close each card by the builder's one call (the guide's Derived/Test/ToyasCard.lean, 'card_holds'). Laid BY PROGRAM, IN A SANDBOX (cutbox-door.mjs). By AI agents, Wed Nov 11 2026. No macro, syntax, notation, axiom, sorry.
-/
import Derived.Test.YtjpphldojbfpfaaGreatDoorRows
import GoSem.ClaimSeven
namespace Go.Proofs.YtjpphldojbfpfaaGreatDoor
namespace Rows

/-- THE TIED CARD OF 'caskettop.CasketFinds'. -/
def casketFindsCard : Claim7 := { stood := { row := casketFindsRow, standIns := [], harness := (true, "0d078e9be48e74bf282d9f1bac19b536d5bdbca56bd1eee08cfcf9f8332fbc7d"), looks := false }, kinds := [], alts := [], laidByText := true, laidKinds := [.data, .data], laidTests := true, laidLooks := .later }
def CasketFindsCardSaid : Prop := Claim7.holds Tryz.pinned (.plain (OpenSpec.ofChange casketFindsSpec)) casketFindsCard

/-- THE SECOND FORM's CARD OF 'caskettop.CasketFinds'. -/
def casketFindsUptoCard : Claim7 := { stood := { row := casketFindsUptoRow, standIns := [], harness := (true, "0d078e9be48e74bf282d9f1bac19b536d5bdbca56bd1eee08cfcf9f8332fbc7d"), looks := false }, kinds := [], alts := [], laidByText := true, laidKinds := [.data, .data], laidTests := true, laidLooks := .later }
def CasketFindsUptoCardSaid : Prop := Claim7.holds Tryz.pinned (.plain (OpenSpec.upto casketFindsSpec)) casketFindsUptoCard
end Rows
end Go.Proofs.YtjpphldojbfpfaaGreatDoor
