/-
  DERIVED. GIVEN WITH THE SEED: THE CARDS: each row of YtkhbnandmhlnoaaDoorRows.lean that lists a variable, with what it lists TIED to the program's text (the seventh form; the later family's looks); each row that meets fmt, with fmt's text TOLD by the authors' own Lean function (tested against real Go, not proved from fmt's source: count such statements apart). THE CARD IS WHAT COUNTS. Prove the row's statement (the work); the ties are given (YtkhbnandmhlnoaaDoorTie.lean); close each card by the builder's one call (the guide's Derived/Test/ToyasCard.lean, 'card_holds'). Laid BY PROGRAM, IN A SANDBOX (cutbox-door.mjs). By AI agents, Wed Nov 11 2026. No macro, syntax, notation, axiom, sorry.
-/
import Derived.Test.YtkhbnandmhlnoaaDoorRows
import GoSem.ClaimSeven
namespace Go.Proofs.YtkhbnandmhlnoaaDoor
namespace Rows

/-- THE TIED CARD OF 'casketlaw02.Sha2Sums'. -/
def sha2SumsCard : Claim7 := { stood := { row := sha2SumsRow, standIns := [], harness := (true, "a95976f1f8cffad4866f6f7a047756ffe213c09cebb310f2d03f9cba87cddec0"), looks := false }, kinds := [], alts := [], laidByText := true, laidKinds := [.data, .data], laidTests := true, laidLooks := .later }
def Sha2SumsCardSaid : Prop := Claim7.holds Tryd.pinned (.plain (OpenSpec.ofChange sha2SumsSpec)) sha2SumsCard

/-- THE TIED CARD OF 'casketlaw02.Sha2Lengths'. -/
def sha2LengthsCard : Claim7 := { stood := { row := sha2LengthsRow, standIns := [], harness := (true, "a95976f1f8cffad4866f6f7a047756ffe213c09cebb310f2d03f9cba87cddec0"), looks := false }, kinds := [], alts := [], laidByText := true, laidKinds := [.data, .data], laidTests := true, laidLooks := .later }
def Sha2LengthsCardSaid : Prop := Claim7.holds Tryd.pinned (.plain (OpenSpec.ofChange sha2LengthsSpec)) sha2LengthsCard

/-- THE TIED CARD OF 'casketlaw02.Sha2Parts'. -/
def sha2PartsCard : Claim7 := { stood := { row := sha2PartsRow, standIns := [], harness := (true, "a95976f1f8cffad4866f6f7a047756ffe213c09cebb310f2d03f9cba87cddec0"), looks := false }, kinds := [], alts := [], laidByText := true, laidKinds := [.data, .data], laidTests := true, laidLooks := .later }
def Sha2PartsCardSaid : Prop := Claim7.holds Tryd.pinned (.plain (OpenSpec.ofChange sha2PartsSpec)) sha2PartsCard

/-- THE SECOND FORM's CARD OF 'casketlaw02.Sha2Sums'. -/
def sha2SumsUptoCard : Claim7 := { stood := { row := sha2SumsUptoRow, standIns := [], harness := (true, "a95976f1f8cffad4866f6f7a047756ffe213c09cebb310f2d03f9cba87cddec0"), looks := false }, kinds := [], alts := [], laidByText := true, laidKinds := [.data, .data], laidTests := true, laidLooks := .later }
def Sha2SumsUptoCardSaid : Prop := Claim7.holds Tryd.pinned (.plain (OpenSpec.upto sha2SumsSpec)) sha2SumsUptoCard

/-- THE SECOND FORM's CARD OF 'casketlaw02.Sha2Lengths'. -/
def sha2LengthsUptoCard : Claim7 := { stood := { row := sha2LengthsUptoRow, standIns := [], harness := (true, "a95976f1f8cffad4866f6f7a047756ffe213c09cebb310f2d03f9cba87cddec0"), looks := false }, kinds := [], alts := [], laidByText := true, laidKinds := [.data, .data], laidTests := true, laidLooks := .later }
def Sha2LengthsUptoCardSaid : Prop := Claim7.holds Tryd.pinned (.plain (OpenSpec.upto sha2LengthsSpec)) sha2LengthsUptoCard

/-- THE SECOND FORM's CARD OF 'casketlaw02.Sha2Parts'. -/
def sha2PartsUptoCard : Claim7 := { stood := { row := sha2PartsUptoRow, standIns := [], harness := (true, "a95976f1f8cffad4866f6f7a047756ffe213c09cebb310f2d03f9cba87cddec0"), looks := false }, kinds := [], alts := [], laidByText := true, laidKinds := [.data, .data], laidTests := true, laidLooks := .later }
def Sha2PartsUptoCardSaid : Prop := Claim7.holds Tryd.pinned (.plain (OpenSpec.upto sha2PartsSpec)) sha2PartsUptoCard
end Rows
end Go.Proofs.YtkhbnandmhlnoaaDoor
