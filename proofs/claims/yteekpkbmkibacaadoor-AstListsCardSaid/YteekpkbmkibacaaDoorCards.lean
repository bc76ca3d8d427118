/-
  DERIVED. GIVEN WITH THE SEED: THE CARDS: each row of YteekpkbmkibacaaDoorRows.lean that lists a variable, with what it lists TIED to the program's text (the seventh form; the later family's looks); each row that meets fmt, with fmt's text TOLD by the authors' own Lean function (tested against real Go, not proved from fmt's source: count such statements apart). THE CARD IS WHAT COUNTS. Prove the row's statement (the work); the ties are given (YteekpkbmkibacaaDoorTie.lean); close each card by the builder's one call (the guide's Derived/Test/ToyasCard.lean, 'card_holds'). Laid BY PROGRAM, IN A SANDBOX (cutbox-door.mjs). By AI agents, Wed Nov 11 2026. No macro, syntax, notation, axiom, sorry.
-/
import Derived.Test.YteekpkbmkibacaaDoorRows
import GoSem.ClaimSeven
namespace Go.Proofs.YteekpkbmkibacaaDoor
namespace Rows

/-- THE TIED CARD OF 'shuttlecocklaw10.DiagNames'. -/
def diagNamesCard : Claim7 := { stood := { row := diagNamesRow, standIns := [], harness := (true, "8165137ab07cf7e9c999a9cbe2d9c8dbb038213225feaed5ed23f42de1948d4c"), looks := false }, kinds := [], alts := [], laidByText := true, laidKinds := [.data], laidTests := true, laidLooks := .later }
def DiagNamesCardSaid : Prop := Claim7.holds Tryd.pinned (.plain (OpenSpec.ofChange diagNamesSpec)) diagNamesCard

/-- THE TIED CARD OF 'shuttlecocklaw03.AstExprs'. -/
def astExprsCard : Claim7 := { stood := { row := astExprsRow, standIns := [], harness := (true, "8165137ab07cf7e9c999a9cbe2d9c8dbb038213225feaed5ed23f42de1948d4c"), looks := false }, kinds := [], alts := [], laidByText := true, laidKinds := [.mapped], laidTests := true, laidLooks := .later }
def AstExprsCardSaid : Prop := Claim7.holds Tryd.pinned (.plain (OpenSpec.ofChange astExprsSpec)) astExprsCard

/-- THE TIED CARD OF 'shuttlecocklaw10.DiagTells'. -/
def diagTellsCard : Claim7 := { stood := { row := diagTellsRow, standIns := [], harness := (true, "8165137ab07cf7e9c999a9cbe2d9c8dbb038213225feaed5ed23f42de1948d4c"), looks := false }, kinds := [], alts := [], laidByText := true, laidKinds := [.data], laidTests := true, laidLooks := .later }
def DiagTellsCardSaid : Prop := Claim7.holds Tryd.pinned (.plain (OpenSpec.ofChange diagTellsSpec)) diagTellsCard

/-- THE TIED CARD OF 'shuttlecocklaw03.AstLists'. -/
def astListsCard : Claim7 := { stood := { row := astListsRow, standIns := [], harness := (true, "8165137ab07cf7e9c999a9cbe2d9c8dbb038213225feaed5ed23f42de1948d4c"), looks := false }, kinds := [], alts := [], laidByText := true, laidKinds := [.mapped], laidTests := true, laidLooks := .later }
def AstListsCardSaid : Prop := Claim7.holds Tryd.pinned (.plain (OpenSpec.ofChange astListsSpec)) astListsCard

/-- THE TIED CARD OF 'shuttlecocklaw14.GridApart'. -/
def gridApartCard : Claim7 := { stood := { row := gridApartRow, standIns := [], harness := (true, "8165137ab07cf7e9c999a9cbe2d9c8dbb038213225feaed5ed23f42de1948d4c"), looks := false }, kinds := [], alts := [], laidByText := true, laidKinds := [.data], laidTests := true, laidLooks := .later }
def GridApartCardSaid : Prop := Claim7.holds Tryd.pinned (.plain (OpenSpec.ofChange gridApartSpec)) gridApartCard

/-- THE TIED CARD OF 'shuttlecocklaw03.AstPrograms'. -/
def astProgramsCard : Claim7 := { stood := { row := astProgramsRow, standIns := [], harness := (true, "8165137ab07cf7e9c999a9cbe2d9c8dbb038213225feaed5ed23f42de1948d4c"), looks := false }, kinds := [], alts := [], laidByText := true, laidKinds := [.mapped], laidTests := true, laidLooks := .later }
def AstProgramsCardSaid : Prop := Claim7.holds Tryd.pinned (.plain (OpenSpec.ofChange astProgramsSpec)) astProgramsCard

/-- THE SECOND FORM's CARD OF 'shuttlecocklaw10.DiagNames'. -/
def diagNamesUptoCard : Claim7 := { stood := { row := diagNamesUptoRow, standIns := [], harness := (true, "8165137ab07cf7e9c999a9cbe2d9c8dbb038213225feaed5ed23f42de1948d4c"), looks := false }, kinds := [], alts := [], laidByText := true, laidKinds := [.data], laidTests := true, laidLooks := .later }
def DiagNamesUptoCardSaid : Prop := Claim7.holds Tryd.pinned (.plain (OpenSpec.upto diagNamesSpec)) diagNamesUptoCard

/-- THE SECOND FORM's CARD OF 'shuttlecocklaw03.AstExprs'. -/
def astExprsUptoCard : Claim7 := { stood := { row := astExprsUptoRow, standIns := [], harness := (true, "8165137ab07cf7e9c999a9cbe2d9c8dbb038213225feaed5ed23f42de1948d4c"), looks := false }, kinds := [], alts := [], laidByText := true, laidKinds := [.mapped], laidTests := true, laidLooks := .later }
def AstExprsUptoCardSaid : Prop := Claim7.holds Tryd.pinned (.plain (OpenSpec.upto astExprsSpec)) astExprsUptoCard

/-- THE SECOND FORM's CARD OF 'shuttlecocklaw10.DiagTells'. -/
def diagTellsUptoCard : Claim7 := { stood := { row := diagTellsUptoRow, standIns := [], harness := (true, "8165137ab07cf7e9c999a9cbe2d9c8dbb038213225feaed5ed23f42de1948d4c"), looks := false }, kinds := [], alts := [], laidByText := true, laidKinds := [.data], laidTests := true, laidLooks := .later }
def DiagTellsUptoCardSaid : Prop := Claim7.holds Tryd.pinned (.plain (OpenSpec.upto diagTellsSpec)) diagTellsUptoCard

/-- THE SECOND FORM's CARD OF 'shuttlecocklaw03.AstLists'. -/
def astListsUptoCard : Claim7 := { stood := { row := astListsUptoRow, standIns := [], harness := (true, "8165137ab07cf7e9c999a9cbe2d9c8dbb038213225feaed5ed23f42de1948d4c"), looks := false }, kinds := [], alts := [], laidByText := true, laidKinds := [.mapped], laidTests := true, laidLooks := .later }
def AstListsUptoCardSaid : Prop := Claim7.holds Tryd.pinned (.plain (OpenSpec.upto astListsSpec)) astListsUptoCard

/-- THE SECOND FORM's CARD OF 'shuttlecocklaw14.GridApart'. -/
def gridApartUptoCard : Claim7 := { stood := { row := gridApartUptoRow, standIns := [], harness := (true, "8165137ab07cf7e9c999a9cbe2d9c8dbb038213225feaed5ed23f42de1948d4c"), looks := false }, kinds := [], alts := [], laidByText := true, laidKinds := [.data], laidTests := true, laidLooks := .later }
def GridApartUptoCardSaid : Prop := Claim7.holds Tryd.pinned (.plain (OpenSpec.upto gridApartSpec)) gridApartUptoCard

/-- THE SECOND FORM's CARD OF 'shuttlecocklaw03.AstPrograms'. -/
def astProgramsUptoCard : Claim7 := { stood := { row := astProgramsUptoRow, standIns := [], harness := (true, "8165137ab07cf7e9c999a9cbe2d9c8dbb038213225feaed5ed23f42de1948d4c"), looks := false }, kinds := [], alts := [], laidByText := true, laidKinds := [.mapped], laidTests := true, laidLooks := .later }
def AstProgramsUptoCardSaid : Prop := Claim7.holds Tryd.pinned (.plain (OpenSpec.upto astProgramsSpec)) astProgramsUptoCard
end Rows
end Go.Proofs.YteekpkbmkibacaaDoor
