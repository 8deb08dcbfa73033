/-
  DERIVED. GIVEN WITH THE SEED: THE CARDS: each row of YtbpgodkdbbiadaaDoorRows.lean that lists a variable, with what it lists TIED to the program's text (the seventh form; the later family's looks); each row that meets fmt, with fmt's text TOLD by the authors' own Lean function (tested against real Go, not proved from fmt's source: count such statements apart). THE CARD IS WHAT COUNTS. Prove the row's statement (the work); the ties are given (YtbpgodkdbbiadaaDoorTie.lean); close each card by the builder's one call (the guide's Derived/Test/ToyasCard.lean, 'card_holds'). Laid BY PROGRAM, IN A SANDBOX (cutbox-door.mjs). By AI agents, Wed Nov 11 2026. No macro, syntax, notation, axiom, sorry.
-/
import Derived.Test.YtbpgodkdbbiadaaDoorRows
import GoSem.ClaimSeven
namespace Go.Proofs.YtbpgodkdbbiadaaDoor
namespace Rows

/-- THE TIED CARD OF 'casketlaw03.HmacSums'. -/
def hmacSumsCard : Claim7 := { stood := { row := hmacSumsRow, standIns := [], harness := (true, "ae77a82f95a9f978715195567ce3aa0d4c5d9c15396d7329dcc0af9b6599a719"), looks := false }, kinds := [], alts := [], laidByText := true, laidKinds := [.data, .data], laidTests := true, laidLooks := .later }
def HmacSumsCardSaid : Prop := Claim7.holds Tryd.pinned (.plain (OpenSpec.ofChange hmacSumsSpec)) hmacSumsCard

/-- THE TIED CARD OF 'casketlaw03.HmacKeys'. -/
def hmacKeysCard : Claim7 := { stood := { row := hmacKeysRow, standIns := [], harness := (true, "ae77a82f95a9f978715195567ce3aa0d4c5d9c15396d7329dcc0af9b6599a719"), looks := false }, kinds := [], alts := [], laidByText := true, laidKinds := [.data, .data], laidTests := true, laidLooks := .later }
def HmacKeysCardSaid : Prop := Claim7.holds Tryd.pinned (.plain (OpenSpec.ofChange hmacKeysSpec)) hmacKeysCard

/-- THE TIED CARD OF 'casketlaw03.HmacParts'. -/
def hmacPartsCard : Claim7 := { stood := { row := hmacPartsRow, standIns := [], harness := (true, "ae77a82f95a9f978715195567ce3aa0d4c5d9c15396d7329dcc0af9b6599a719"), looks := false }, kinds := [], alts := [], laidByText := true, laidKinds := [.data, .data], laidTests := true, laidLooks := .later }
def HmacPartsCardSaid : Prop := Claim7.holds Tryd.pinned (.plain (OpenSpec.ofChange hmacPartsSpec)) hmacPartsCard

/-- THE SECOND FORM's CARD OF 'casketlaw03.HmacSums'. -/
def hmacSumsUptoCard : Claim7 := { stood := { row := hmacSumsUptoRow, standIns := [], harness := (true, "ae77a82f95a9f978715195567ce3aa0d4c5d9c15396d7329dcc0af9b6599a719"), looks := false }, kinds := [], alts := [], laidByText := true, laidKinds := [.data, .data], laidTests := true, laidLooks := .later }
def HmacSumsUptoCardSaid : Prop := Claim7.holds Tryd.pinned (.plain (OpenSpec.upto hmacSumsSpec)) hmacSumsUptoCard

/-- THE SECOND FORM's CARD OF 'casketlaw03.HmacKeys'. -/
def hmacKeysUptoCard : Claim7 := { stood := { row := hmacKeysUptoRow, standIns := [], harness := (true, "ae77a82f95a9f978715195567ce3aa0d4c5d9c15396d7329dcc0af9b6599a719"), looks := false }, kinds := [], alts := [], laidByText := true, laidKinds := [.data, .data], laidTests := true, laidLooks := .later }
def HmacKeysUptoCardSaid : Prop := Claim7.holds Tryd.pinned (.plain (OpenSpec.upto hmacKeysSpec)) hmacKeysUptoCard

/-- THE SECOND FORM's CARD OF 'casketlaw03.HmacParts'. -/
def hmacPartsUptoCard : Claim7 := { stood := { row := hmacPartsUptoRow, standIns := [], harness := (true, "ae77a82f95a9f978715195567ce3aa0d4c5d9c15396d7329dcc0af9b6599a719"), looks := false }, kinds := [], alts := [], laidByText := true, laidKinds := [.data, .data], laidTests := true, laidLooks := .later }
def HmacPartsUptoCardSaid : Prop := Claim7.holds Tryd.pinned (.plain (OpenSpec.upto hmacPartsSpec)) hmacPartsUptoCard
end Rows
end Go.Proofs.YtbpgodkdbbiadaaDoor
