/-
  DERIVED. GIVEN WITH THE SEED: THE CARDS: each row of YtmmjjjdocanmfaaDoorRows.lean that lists a variable, with what it lists TIED to the program's text (the seventh form; the later family's looks); each row that meets fmt, with fmt's text TOLD by the authors' own Lean function (tested against real Go, not proved from fmt's source: count such statements apart). THE CARD IS WHAT COUNTS. Prove the row's statement (the work); the ties are given (YtmmjjjdocanmfaaDoorTie.lean); close each card by the builder's one call (the guide's Derived/Test/ToyasCard.lean, 'card_holds'). Laid BY PROGRAM, IN A SANDBOX (cutbox-door.mjs). By AI agents, Wed Nov 11 2026. No macro, syntax, notation, axiom, sorry.
-/
import Derived.Test.YtmmjjjdocanmfaaDoorRows
import GoSem.ClaimSeven
namespace Go.Proofs.YtmmjjjdocanmfaaDoor
namespace Rows

/-- THE TIED CARD OF 'casketlaw04.HkdfBegins'. -/
def hkdfBeginsCard : Claim7 := { stood := { row := hkdfBeginsRow, standIns := [], harness := (true, "50c11f1501e1e43f6b9cda8d13ff5f0ebafd8f6f9591e8aec8c8463d908cadf4"), looks := false }, kinds := [], alts := [], laidByText := true, laidKinds := [.data, .data], laidTests := true, laidLooks := .later }
def HkdfBeginsCardSaid : Prop := Claim7.holds Tryd.pinned (.plain (OpenSpec.ofChange hkdfBeginsSpec)) hkdfBeginsCard

/-- THE TIED CARD OF 'casketlaw04.HkdfChains'. -/
def hkdfChainsCard : Claim7 := { stood := { row := hkdfChainsRow, standIns := [], harness := (true, "50c11f1501e1e43f6b9cda8d13ff5f0ebafd8f6f9591e8aec8c8463d908cadf4"), looks := false }, kinds := [], alts := [], laidByText := true, laidKinds := [.data, .data], laidTests := true, laidLooks := .later }
def HkdfChainsCardSaid : Prop := Claim7.holds Tryd.pinned (.plain (OpenSpec.ofChange hkdfChainsSpec)) hkdfChainsCard

/-- THE TIED CARD OF 'casketlaw04.HkdfTells'. -/
def hkdfTellsCard : Claim7 := { stood := { row := hkdfTellsRow, standIns := [], harness := (true, "50c11f1501e1e43f6b9cda8d13ff5f0ebafd8f6f9591e8aec8c8463d908cadf4"), looks := false }, kinds := [], alts := [], laidByText := true, laidKinds := [.data, .data], laidTests := true, laidLooks := .later }
def HkdfTellsCardSaid : Prop := Claim7.holds Tryd.pinned (.plain (OpenSpec.ofChange hkdfTellsSpec)) hkdfTellsCard

/-- THE SECOND FORM's CARD OF 'casketlaw04.HkdfBegins'. -/
def hkdfBeginsUptoCard : Claim7 := { stood := { row := hkdfBeginsUptoRow, standIns := [], harness := (true, "50c11f1501e1e43f6b9cda8d13ff5f0ebafd8f6f9591e8aec8c8463d908cadf4"), looks := false }, kinds := [], alts := [], laidByText := true, laidKinds := [.data, .data], laidTests := true, laidLooks := .later }
def HkdfBeginsUptoCardSaid : Prop := Claim7.holds Tryd.pinned (.plain (OpenSpec.upto hkdfBeginsSpec)) hkdfBeginsUptoCard

/-- THE SECOND FORM's CARD OF 'casketlaw04.HkdfChains'. -/
def hkdfChainsUptoCard : Claim7 := { stood := { row := hkdfChainsUptoRow, standIns := [], harness := (true, "50c11f1501e1e43f6b9cda8d13ff5f0ebafd8f6f9591e8aec8c8463d908cadf4"), looks := false }, kinds := [], alts := [], laidByText := true, laidKinds := [.data, .data], laidTests := true, laidLooks := .later }
def HkdfChainsUptoCardSaid : Prop := Claim7.holds Tryd.pinned (.plain (OpenSpec.upto hkdfChainsSpec)) hkdfChainsUptoCard

/-- THE SECOND FORM's CARD OF 'casketlaw04.HkdfTells'. -/
def hkdfTellsUptoCard : Claim7 := { stood := { row := hkdfTellsUptoRow, standIns := [], harness := (true, "50c11f1501e1e43f6b9cda8d13ff5f0ebafd8f6f9591e8aec8c8463d908cadf4"), looks := false }, kinds := [], alts := [], laidByText := true, laidKinds := [.data, .data], laidTests := true, laidLooks := .later }
def HkdfTellsUptoCardSaid : Prop := Claim7.holds Tryd.pinned (.plain (OpenSpec.upto hkdfTellsSpec)) hkdfTellsUptoCard
end Rows
end Go.Proofs.YtmmjjjdocanmfaaDoor
