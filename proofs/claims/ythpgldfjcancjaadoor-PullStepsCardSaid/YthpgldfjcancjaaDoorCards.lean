/-
  DERIVED. GIVEN WITH THE SEED: THE CARDS: each row of YthpgldfjcancjaaDoorRows.lean that lists a variable, with what it lists TIED to the program's text (the seventh form; the later family's looks); each row that meets fmt, with fmt's text TOLD by the authors' own Lean function (tested against real Go, not proved from fmt's source: count such statements apart). THE CARD IS WHAT COUNTS. Prove the row's statement (the work); the ties are given (YthpgldfjcancjaaDoorTie.lean); close each card by the builder's one call (the guide's Derived/Test/ToyasCard.lean, 'card_holds'). Laid BY PROGRAM, IN A SANDBOX (cutbox-door.mjs). By AI agents, Wed Nov 11 2026. No macro, syntax, notation, axiom, sorry.
-/
import Derived.Test.YthpgldfjcancjaaDoorRows
import GoSem.ClaimSeven
namespace Go.Proofs.YthpgldfjcancjaaDoor
namespace Rows

/-- THE TIED CARD OF 'casketlaw20.PullLeaves'. -/
def pullLeavesCard : Claim7 := { stood := { row := pullLeavesRow, standIns := [], harness := (true, "9497f2cc93dbdd40a5cb28ef2ce180b884568abaf6ecd78ad8bc8cbbd5f5efba"), looks := false }, kinds := [], alts := [], laidByText := true, laidKinds := [.data, .data], laidTests := true, laidLooks := .later }
def PullLeavesCardSaid : Prop := Claim7.holds Tryd.pinned (.plain (OpenSpec.ofChange pullLeavesSpec)) pullLeavesCard

/-- THE TIED CARD OF 'casketlaw20.PullSteps'. -/
def pullStepsCard : Claim7 := { stood := { row := pullStepsRow, standIns := [], harness := (true, "9497f2cc93dbdd40a5cb28ef2ce180b884568abaf6ecd78ad8bc8cbbd5f5efba"), looks := false }, kinds := [], alts := [], laidByText := true, laidKinds := [.data, .data], laidTests := true, laidLooks := .later }
def PullStepsCardSaid : Prop := Claim7.holds Tryd.pinned (.plain (OpenSpec.ofChange pullStepsSpec)) pullStepsCard

/-- THE TIED CARD OF 'casketlaw20.PullSelf'. -/
def pullSelfCard : Claim7 := { stood := { row := pullSelfRow, standIns := [], harness := (true, "9497f2cc93dbdd40a5cb28ef2ce180b884568abaf6ecd78ad8bc8cbbd5f5efba"), looks := false }, kinds := [], alts := [], laidByText := true, laidKinds := [.data, .data], laidTests := true, laidLooks := .later }
def PullSelfCardSaid : Prop := Claim7.holds Tryd.pinned (.plain (OpenSpec.ofChange pullSelfSpec)) pullSelfCard

/-- THE SECOND FORM's CARD OF 'casketlaw20.PullLeaves'. -/
def pullLeavesUptoCard : Claim7 := { stood := { row := pullLeavesUptoRow, standIns := [], harness := (true, "9497f2cc93dbdd40a5cb28ef2ce180b884568abaf6ecd78ad8bc8cbbd5f5efba"), looks := false }, kinds := [], alts := [], laidByText := true, laidKinds := [.data, .data], laidTests := true, laidLooks := .later }
def PullLeavesUptoCardSaid : Prop := Claim7.holds Tryd.pinned (.plain (OpenSpec.upto pullLeavesSpec)) pullLeavesUptoCard

/-- THE SECOND FORM's CARD OF 'casketlaw20.PullSteps'. -/
def pullStepsUptoCard : Claim7 := { stood := { row := pullStepsUptoRow, standIns := [], harness := (true, "9497f2cc93dbdd40a5cb28ef2ce180b884568abaf6ecd78ad8bc8cbbd5f5efba"), looks := false }, kinds := [], alts := [], laidByText := true, laidKinds := [.data, .data], laidTests := true, laidLooks := .later }
def PullStepsUptoCardSaid : Prop := Claim7.holds Tryd.pinned (.plain (OpenSpec.upto pullStepsSpec)) pullStepsUptoCard

/-- THE SECOND FORM's CARD OF 'casketlaw20.PullSelf'. -/
def pullSelfUptoCard : Claim7 := { stood := { row := pullSelfUptoRow, standIns := [], harness := (true, "9497f2cc93dbdd40a5cb28ef2ce180b884568abaf6ecd78ad8bc8cbbd5f5efba"), looks := false }, kinds := [], alts := [], laidByText := true, laidKinds := [.data, .data], laidTests := true, laidLooks := .later }
def PullSelfUptoCardSaid : Prop := Claim7.holds Tryd.pinned (.plain (OpenSpec.upto pullSelfSpec)) pullSelfUptoCard
end Rows
end Go.Proofs.YthpgldfjcancjaaDoor
