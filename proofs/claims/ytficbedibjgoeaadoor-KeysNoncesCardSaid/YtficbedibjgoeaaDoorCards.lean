/-
  DERIVED. GIVEN WITH THE SEED: THE CARDS: each row of YtficbedibjgoeaaDoorRows.lean that lists a variable, with what it lists TIED to the program's text (the seventh form; the later family's looks); each row that meets fmt, with fmt's text TOLD by the authors' own Lean function (tested against real Go, not proved from fmt's source: count such statements apart). THE CARD IS WHAT COUNTS. Prove the row's statement (the work); the ties are given (YtficbedibjgoeaaDoorTie.lean); close each card by the builder's one call (the guide's Derived/Test/ToyasCard.lean, 'card_holds'). Laid BY PROGRAM, IN A SANDBOX (cutbox-door.mjs). By AI agents, Wed Nov 11 2026. No macro, syntax, notation, axiom, sorry.
-/
import Derived.Test.YtficbedibjgoeaaDoorRows
import GoSem.ClaimSeven
namespace Go.Proofs.YtficbedibjgoeaaDoor
namespace Rows

/-- THE TIED CARD OF 'casketlaw11.KeysBlind'. -/
def keysBlindCard : Claim7 := { stood := { row := keysBlindRow, standIns := [], harness := (true, "e6301f3d3769008478ef53a28aa685bcc8efa6174b05d522987e64c97ab58ac6"), looks := false }, kinds := [], alts := [], laidByText := true, laidKinds := [.data, .data], laidTests := true, laidLooks := .later }
def KeysBlindCardSaid : Prop := Claim7.holds Tryd.pinned (.plain (OpenSpec.ofChange keysBlindSpec)) keysBlindCard

/-- THE TIED CARD OF 'casketlaw11.KeysNonces'. -/
def keysNoncesCard : Claim7 := { stood := { row := keysNoncesRow, standIns := [], harness := (true, "e6301f3d3769008478ef53a28aa685bcc8efa6174b05d522987e64c97ab58ac6"), looks := false }, kinds := [], alts := [], laidByText := true, laidKinds := [.data, .data], laidTests := true, laidLooks := .later }
def KeysNoncesCardSaid : Prop := Claim7.holds Tryd.pinned (.plain (OpenSpec.ofChange keysNoncesSpec)) keysNoncesCard

/-- THE TIED CARD OF 'casketlaw11.KeysParts'. -/
def keysPartsCard : Claim7 := { stood := { row := keysPartsRow, standIns := [], harness := (true, "e6301f3d3769008478ef53a28aa685bcc8efa6174b05d522987e64c97ab58ac6"), looks := false }, kinds := [], alts := [], laidByText := true, laidKinds := [.data, .data], laidTests := true, laidLooks := .later }
def KeysPartsCardSaid : Prop := Claim7.holds Tryd.pinned (.plain (OpenSpec.ofChange keysPartsSpec)) keysPartsCard

/-- THE TIED CARD OF 'casketlaw11.KeysSeal'. -/
def keysSealCard : Claim7 := { stood := { row := keysSealRow, standIns := [], harness := (true, "e6301f3d3769008478ef53a28aa685bcc8efa6174b05d522987e64c97ab58ac6"), looks := false }, kinds := [], alts := [], laidByText := true, laidKinds := [.data, .data], laidTests := true, laidLooks := .later }
def KeysSealCardSaid : Prop := Claim7.holds Tryd.pinned (.plain (OpenSpec.ofChange keysSealSpec)) keysSealCard

/-- THE SECOND FORM's CARD OF 'casketlaw11.KeysBlind'. -/
def keysBlindUptoCard : Claim7 := { stood := { row := keysBlindUptoRow, standIns := [], harness := (true, "e6301f3d3769008478ef53a28aa685bcc8efa6174b05d522987e64c97ab58ac6"), looks := false }, kinds := [], alts := [], laidByText := true, laidKinds := [.data, .data], laidTests := true, laidLooks := .later }
def KeysBlindUptoCardSaid : Prop := Claim7.holds Tryd.pinned (.plain (OpenSpec.upto keysBlindSpec)) keysBlindUptoCard

/-- THE SECOND FORM's CARD OF 'casketlaw11.KeysNonces'. -/
def keysNoncesUptoCard : Claim7 := { stood := { row := keysNoncesUptoRow, standIns := [], harness := (true, "e6301f3d3769008478ef53a28aa685bcc8efa6174b05d522987e64c97ab58ac6"), looks := false }, kinds := [], alts := [], laidByText := true, laidKinds := [.data, .data], laidTests := true, laidLooks := .later }
def KeysNoncesUptoCardSaid : Prop := Claim7.holds Tryd.pinned (.plain (OpenSpec.upto keysNoncesSpec)) keysNoncesUptoCard

/-- THE SECOND FORM's CARD OF 'casketlaw11.KeysParts'. -/
def keysPartsUptoCard : Claim7 := { stood := { row := keysPartsUptoRow, standIns := [], harness := (true, "e6301f3d3769008478ef53a28aa685bcc8efa6174b05d522987e64c97ab58ac6"), looks := false }, kinds := [], alts := [], laidByText := true, laidKinds := [.data, .data], laidTests := true, laidLooks := .later }
def KeysPartsUptoCardSaid : Prop := Claim7.holds Tryd.pinned (.plain (OpenSpec.upto keysPartsSpec)) keysPartsUptoCard

/-- THE SECOND FORM's CARD OF 'casketlaw11.KeysSeal'. -/
def keysSealUptoCard : Claim7 := { stood := { row := keysSealUptoRow, standIns := [], harness := (true, "e6301f3d3769008478ef53a28aa685bcc8efa6174b05d522987e64c97ab58ac6"), looks := false }, kinds := [], alts := [], laidByText := true, laidKinds := [.data, .data], laidTests := true, laidLooks := .later }
def KeysSealUptoCardSaid : Prop := Claim7.holds Tryd.pinned (.plain (OpenSpec.upto keysSealSpec)) keysSealUptoCard
end Rows
end Go.Proofs.YtficbedibjgoeaaDoor
