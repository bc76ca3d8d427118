/-
  DERIVED. GIVEN WITH THE SEED: THE CARDS: each row of YtnjehllmlheagaaDoorRows.lean that lists a variable, with what it lists TIED to the program's text (the seventh form; the later family's looks); each row that meets fmt, with fmt's text TOLD by the authors' own Lean function (tested against real Go, not proved from fmt's source: count such statements apart). THE CARD IS WHAT COUNTS. Prove the row's statement (the work); the ties are given (YtnjehllmlheagaaDoorTie.lean); close each card by the builder's one call (the guide's Derived/Test/ToyasCard.lean, 'card_holds'). Laid BY PROGRAM, IN A SANDBOX (cutbox-door.mjs). By AI agents, Wed Nov 11 2026. No macro, syntax, notation, axiom, sorry.
-/
import Derived.Test.YtnjehllmlheagaaDoorRows
import GoSem.ClaimSeven
namespace Go.Proofs.YtnjehllmlheagaaDoor
namespace Rows

/-- THE TIED CARD OF 'shuttlecocklaw11.FlowRange'. -/
def flowRangeCard : Claim7 := { stood := { row := flowRangeRow, standIns := [], harness := (true, "89fb2bc2e5dea209a6414acfdc68b28da86245ed63d5e3adff81fbd45b5e4168"), looks := false }, kinds := [], alts := [], laidByText := true, laidKinds := [.mapped, .data, .data], laidTests := true, laidLooks := .later }
def FlowRangeCardSaid : Prop := Claim7.holds Tryd.pinned (.plain (OpenSpec.ofChange flowRangeSpec)) flowRangeCard

/-- THE TIED CARD OF 'shuttlecocklaw11.FlowChecks'. -/
def flowChecksCard : Claim7 := { stood := { row := flowChecksRow, standIns := [], harness := (true, "89fb2bc2e5dea209a6414acfdc68b28da86245ed63d5e3adff81fbd45b5e4168"), looks := false }, kinds := [], alts := [], laidByText := true, laidKinds := [.mapped, .data, .data], laidTests := true, laidLooks := .later }
def FlowChecksCardSaid : Prop := Claim7.holds Tryd.pinned (.plain (OpenSpec.ofChange flowChecksSpec)) flowChecksCard

/-- THE TIED CARD OF 'shuttlecocklaw12.RunFront'. -/
def runFrontCard : Claim7 := { stood := { row := runFrontRow, standIns := [], harness := (true, "89fb2bc2e5dea209a6414acfdc68b28da86245ed63d5e3adff81fbd45b5e4168"), looks := false }, kinds := [], alts := [], laidByText := true, laidKinds := [.mapped, .data, .data, .funcs], laidTests := true, laidLooks := .later }
def RunFrontCardSaid : Prop := Claim7.holds Tryd.pinned (.plain (OpenSpec.ofChange runFrontSpec)) runFrontCard

/-- THE SECOND FORM's CARD OF 'shuttlecocklaw11.FlowRange'. -/
def flowRangeUptoCard : Claim7 := { stood := { row := flowRangeUptoRow, standIns := [], harness := (true, "89fb2bc2e5dea209a6414acfdc68b28da86245ed63d5e3adff81fbd45b5e4168"), looks := false }, kinds := [], alts := [], laidByText := true, laidKinds := [.mapped, .data, .data], laidTests := true, laidLooks := .later }
def FlowRangeUptoCardSaid : Prop := Claim7.holds Tryd.pinned (.plain (OpenSpec.upto flowRangeSpec)) flowRangeUptoCard

/-- THE SECOND FORM's CARD OF 'shuttlecocklaw11.FlowChecks'. -/
def flowChecksUptoCard : Claim7 := { stood := { row := flowChecksUptoRow, standIns := [], harness := (true, "89fb2bc2e5dea209a6414acfdc68b28da86245ed63d5e3adff81fbd45b5e4168"), looks := false }, kinds := [], alts := [], laidByText := true, laidKinds := [.mapped, .data, .data], laidTests := true, laidLooks := .later }
def FlowChecksUptoCardSaid : Prop := Claim7.holds Tryd.pinned (.plain (OpenSpec.upto flowChecksSpec)) flowChecksUptoCard

/-- THE SECOND FORM's CARD OF 'shuttlecocklaw12.RunFront'. -/
def runFrontUptoCard : Claim7 := { stood := { row := runFrontUptoRow, standIns := [], harness := (true, "89fb2bc2e5dea209a6414acfdc68b28da86245ed63d5e3adff81fbd45b5e4168"), looks := false }, kinds := [], alts := [], laidByText := true, laidKinds := [.mapped, .data, .data, .funcs], laidTests := true, laidLooks := .later }
def RunFrontUptoCardSaid : Prop := Claim7.holds Tryd.pinned (.plain (OpenSpec.upto runFrontSpec)) runFrontUptoCard
end Rows
end Go.Proofs.YtnjehllmlheagaaDoor
