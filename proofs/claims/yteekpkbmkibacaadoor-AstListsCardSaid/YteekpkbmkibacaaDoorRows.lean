/-
  NARROWER THAN 'FOR EVERY INPUT', by the rows' own cells (each row's printed sentence says how): DiagNames: laid · AstExprs: loops, laid · DiagTells: laid · AstLists: laid · GridApart: laid · AstPrograms: loops, laid.
  DERIVED. THE GIVEN ROWS OF THIS SEAT. 6 by the template 'for every input the law returns true; each argument reads behind the call as it read before'; 0 by the template 'total and deterministic' (their statements: YteekpkbmkibacaaDoorTotals.lean).
  GIVEN WITH THE SEED: the statements are not yours to turn. If you find one false, say at which input.
  Laid BY PROGRAM, IN A SANDBOX (cutbox-rows.mjs): the forced cells as the released guide's own fill.sh prints them over the translation e578662e89b1c0fc… (all of the seat's roots in one cut). By AI agents, Wed Nov 11 2026. No macro, syntax, notation, axiom, sorry.
-/
import Derived.Test.YteekpkbmkibacaaDoorChecked
import GoSem.Claim
import GoSem.ClaimJoined
import GoSem.ClaimMapViews
import Derived.JoinedTies
import Derived.KernelRfl
namespace Go.Proofs.YteekpkbmkibacaaDoor
/- THE CELL 'sum', in the pinned program and in every row, IS THE sha256 OF THE DUMP (.gsa) THAT YteekpkbmkibacaaDoorProg.lean LOADS. Nothing in Lean hashes anything: it is a label: what it is worth is what the hold of that sum in a sandbox is worth. -/
noncomputable def Tryd.pinned : Pinned := { name := "yteekpkbmkibacaadoor", sum := "e578662e89b1c0fc333d3bbda1fc84c9b458616153fedae3731baa452ddb1e73", checked := Tryd.checked }
namespace Rows
def none {H : Type} : Left H := { results := [], args := [] }

/- WHAT THE LISTED PACKAGE-LEVEL VARIABLES READ AS WHEN THE CALL BEGINS. Each datum BY PROGRAM (the guide's laid-datum.mjs) off the statement by which the dump's own 'gosem.cut.vars' lays the variable. In a bare row this is a premise. The card (YteekpkbmkibacaaDoorCards.lean) ties it to the program's text. -/
def laid_shuttlecock_diag_kinds {H : Type} : DataW H := .slice [.agg [.lit (.int .i64 0), .lit (.int .i64 0), .lit (.int .i64 9223372036854775807), .lit (.int .i64 0)], .agg [.lit (.int .i64 0), .lit (.int .i64 0), .lit (.int .i64 1), .lit (.int .i64 0)], .agg [.lit (.int .i64 0), .lit (.int .i64 1), .lit (.int .i64 0), .lit (.int .i64 1)], .agg [.lit (.int .i64 1), .lit (.int .i64 15), .lit (.int .i64 0), .lit (.int .i64 2)], .agg [.lit (.int .i64 0), .lit (.int .i64 1), .lit (.int .i64 0), .lit (.int .i64 1)], .agg [.lit (.int .i64 0), .lit (.int .i64 0), .lit (.int .i64 0), .lit (.int .i64 2)], .agg [.lit (.int .i64 0), .lit (.int .i64 0), .lit (.int .i64 0), .lit (.int .i64 3)], .agg [.lit (.int .i64 0), .lit (.int .i64 0), .lit (.int .i64 0), .lit (.int .i64 (-1))]] []
def laid_shuttlecock_ast_words {H : Type} : DataW H := .map [(.string [97, 110, 100], .lit (.bool true)), (.string [98, 111, 111, 108], .lit (.bool true)), (.string [99, 111, 110, 115, 116], .lit (.bool true)), (.string [100, 105, 118], .lit (.bool true)), (.string [101, 108, 115, 101], .lit (.bool true)), (.string [102, 97, 108, 115, 101], .lit (.bool true)), (.string [105, 102], .lit (.bool true)), (.string [105, 110, 116], .lit (.bool true)), (.string [108, 101, 116], .lit (.bool true)), (.string [109, 111, 100], .lit (.bool true)), (.string [110, 111, 100, 101], .lit (.bool true)), (.string [110, 111, 116], .lit (.bool true)), (.string [111, 114], .lit (.bool true)), (.string [112, 114, 101], .lit (.bool true)), (.string [114, 101, 116, 117, 114, 110, 115], .lit (.bool true)), (.string [116, 101, 108], .lit (.bool true)), (.string [116, 104, 101, 110], .lit (.bool true)), (.string [116, 114, 117, 101], .lit (.bool true)), (.string [118, 97, 114], .lit (.bool true)), (.string [120, 111, 114], .lit (.bool true))]

/-- 'shuttlecocklaw10.DiagNames': WHATEVER THE INPUT: true; the input reads as it did. -/
def diagNamesSpec : ChangeSpec := { name := "diagNames", fn := fun _ => fun
  | [d1, d2] => { results := [.lit (.bool true)], args := [d1, d2] }
  | _ => none }
def diagNamesRow : OpenClaim := { program := "yteekpkbmkibacaadoor", sum := "e578662e89b1c0fc333d3bbda1fc84c9b458616153fedae3731baa452ddb1e73", func := "shuttlecock/shuttlecocklaw10.DiagNames", spec := "diagNames", unfollowed := true, recurses := true, named := ["shuttlecock/diag.kinds"], apart := false, laid := [("shuttlecock/diag.kinds", laid_shuttlecock_diag_kinds)] }
def DiagNamesSaid : Prop := diagNamesRow.holds Tryd.pinned (OpenSpec.ofChange diagNamesSpec)

/-- ITS FALSE NEIGHBOUR: 'it returns false'. Refute it at one input. -/
def diagNamesWrong : ChangeSpec := { name := "diagNames", fn := fun _ => fun
  | [d1, d2] => { results := [.lit (.bool false)], args := [d1, d2] }
  | _ => none }
def DiagNamesWrongFalsely : Prop := diagNamesRow.holds Tryd.pinned (OpenSpec.ofChange diagNamesWrong)

/-- 'shuttlecocklaw03.AstExprs': WHATEVER THE INPUT: true; the input reads as it did. -/
def astExprsSpec : ChangeSpec := { name := "astExprs", fn := fun _ => fun
  | [d1, d2, d3] => { results := [.lit (.bool true)], args := [d1, d2, d3] }
  | _ => none }
def astExprsRow : OpenClaim := { program := "yteekpkbmkibacaadoor", sum := "e578662e89b1c0fc333d3bbda1fc84c9b458616153fedae3731baa452ddb1e73", func := "shuttlecock/shuttlecocklaw03.AstExprs", spec := "astExprs", unfollowed := true, recurses := true, named := ["shuttlecock/ast.words"], loops := true, apart := false, laid := [("shuttlecock/ast.words", laid_shuttlecock_ast_words)] }
def AstExprsSaid : Prop := astExprsRow.holds Tryd.pinned (OpenSpec.ofChange astExprsSpec)

/-- ITS FALSE NEIGHBOUR: 'it returns false'. Refute it at one input. -/
def astExprsWrong : ChangeSpec := { name := "astExprs", fn := fun _ => fun
  | [d1, d2, d3] => { results := [.lit (.bool false)], args := [d1, d2, d3] }
  | _ => none }
def AstExprsWrongFalsely : Prop := astExprsRow.holds Tryd.pinned (OpenSpec.ofChange astExprsWrong)

/-- 'shuttlecocklaw10.DiagTells': WHATEVER THE INPUT: true; the input reads as it did. -/
def diagTellsSpec : ChangeSpec := { name := "diagTells", fn := fun _ => fun
  | [d1, d2, d3] => { results := [.lit (.bool true)], args := [d1, d2, d3] }
  | _ => none }
def diagTellsRow : OpenClaim := { program := "yteekpkbmkibacaadoor", sum := "e578662e89b1c0fc333d3bbda1fc84c9b458616153fedae3731baa452ddb1e73", func := "shuttlecock/shuttlecocklaw10.DiagTells", spec := "diagTells", unfollowed := true, recurses := true, named := ["shuttlecock/diag.kinds"], apart := false, laid := [("shuttlecock/diag.kinds", laid_shuttlecock_diag_kinds)] }
def DiagTellsSaid : Prop := diagTellsRow.holds Tryd.pinned (OpenSpec.ofChange diagTellsSpec)

/-- ITS FALSE NEIGHBOUR: 'it returns false'. Refute it at one input. -/
def diagTellsWrong : ChangeSpec := { name := "diagTells", fn := fun _ => fun
  | [d1, d2, d3] => { results := [.lit (.bool false)], args := [d1, d2, d3] }
  | _ => none }
def DiagTellsWrongFalsely : Prop := diagTellsRow.holds Tryd.pinned (OpenSpec.ofChange diagTellsWrong)

/-- 'shuttlecocklaw03.AstLists': WHATEVER THE INPUT: true; the input reads as it did. -/
def astListsSpec : ChangeSpec := { name := "astLists", fn := fun _ => fun
  | [d1, d2] => { results := [.lit (.bool true)], args := [d1, d2] }
  | _ => none }
def astListsRow : OpenClaim := { program := "yteekpkbmkibacaadoor", sum := "e578662e89b1c0fc333d3bbda1fc84c9b458616153fedae3731baa452ddb1e73", func := "shuttlecock/shuttlecocklaw03.AstLists", spec := "astLists", unfollowed := true, recurses := true, named := ["shuttlecock/ast.words"], apart := false, laid := [("shuttlecock/ast.words", laid_shuttlecock_ast_words)] }
def AstListsSaid : Prop := astListsRow.holds Tryd.pinned (OpenSpec.ofChange astListsSpec)

/-- ITS FALSE NEIGHBOUR: 'it returns false'. Refute it at one input. -/
def astListsWrong : ChangeSpec := { name := "astLists", fn := fun _ => fun
  | [d1, d2] => { results := [.lit (.bool false)], args := [d1, d2] }
  | _ => none }
def AstListsWrongFalsely : Prop := astListsRow.holds Tryd.pinned (OpenSpec.ofChange astListsWrong)

/-- 'shuttlecocklaw14.GridApart': WHATEVER THE INPUT: true; the input reads as it did. -/
def gridApartSpec : ChangeSpec := { name := "gridApart", fn := fun _ => fun
  | [d] => { results := [.lit (.bool true)], args := [d] }
  | _ => none }
def gridApartRow : OpenClaim := { program := "yteekpkbmkibacaadoor", sum := "e578662e89b1c0fc333d3bbda1fc84c9b458616153fedae3731baa452ddb1e73", func := "shuttlecock/shuttlecocklaw14.GridApart", spec := "gridApart", unfollowed := true, recurses := true, named := ["shuttlecock/diag.kinds"], apart := false, laid := [("shuttlecock/diag.kinds", laid_shuttlecock_diag_kinds)] }
def GridApartSaid : Prop := gridApartRow.holds Tryd.pinned (OpenSpec.ofChange gridApartSpec)

/-- ITS FALSE NEIGHBOUR: 'it returns false'. Refute it at one input. -/
def gridApartWrong : ChangeSpec := { name := "gridApart", fn := fun _ => fun
  | [d] => { results := [.lit (.bool false)], args := [d] }
  | _ => none }
def GridApartWrongFalsely : Prop := gridApartRow.holds Tryd.pinned (OpenSpec.ofChange gridApartWrong)

/-- 'shuttlecocklaw03.AstPrograms': WHATEVER THE INPUT: true; the input reads as it did. -/
def astProgramsSpec : ChangeSpec := { name := "astPrograms", fn := fun _ => fun
  | [d1, d2, d3] => { results := [.lit (.bool true)], args := [d1, d2, d3] }
  | _ => none }
def astProgramsRow : OpenClaim := { program := "yteekpkbmkibacaadoor", sum := "e578662e89b1c0fc333d3bbda1fc84c9b458616153fedae3731baa452ddb1e73", func := "shuttlecock/shuttlecocklaw03.AstPrograms", spec := "astPrograms", unfollowed := true, recurses := true, named := ["shuttlecock/ast.words"], loops := true, apart := false, laid := [("shuttlecock/ast.words", laid_shuttlecock_ast_words)] }
def AstProgramsSaid : Prop := astProgramsRow.holds Tryd.pinned (OpenSpec.ofChange astProgramsSpec)

/-- ITS FALSE NEIGHBOUR: 'it returns false'. Refute it at one input. -/
def astProgramsWrong : ChangeSpec := { name := "astPrograms", fn := fun _ => fun
  | [d1, d2, d3] => { results := [.lit (.bool false)], args := [d1, d2, d3] }
  | _ => none }
def AstProgramsWrongFalsely : Prop := astProgramsRow.holds Tryd.pinned (OpenSpec.ofChange astProgramsWrong)

/- THE SECOND FORM. 'bulk': how many values and letters a reading holds, each counted each time it is reached (what is shared counts as often as it is met; a slice's spare places count too). A statement '..UptoSaid' is the law's where the arguments, and the package variables that the reading takes, are together of bulk at most 1048576: NARROWER than '..Said'. Prove '..Said' where nothing that the law and all that it calls make is longer than what came in: it says more and counts as full. Else prove '..UptoSaid'. A law counts once. -/
mutual
def uptoBulk {H : Type} : DataW H → Nat
  | .lit (.string bytes) => bytes.length + 1
  | .lit _ => 1
  | .nil => 1
  | .ptr d => uptoBulk d + 1
  | .slice elems spare => uptoBulkAll elems + uptoBulkAll spare + 1
  | .agg parts => uptoBulkAll parts + 1
  | .iface _ d => uptoBulk d + 1
  | .map entries => uptoBulkEntries entries + 1
  | .held _ => 1
def uptoBulkAll {H : Type} : List (DataW H) → Nat
  | [] => 0
  | d :: r => uptoBulk d + uptoBulkAll r
def uptoBulkEntries {H : Type} : List (Lit × DataW H) → Nat
  | [] => 0
  | x :: r => uptoBulkEntry x + uptoBulkEntries r
def uptoBulkEntry {H : Type} : Lit × DataW H → Nat
  | (.string bytes, d) => bytes.length + uptoBulk d + 1
  | (_, d) => uptoBulk d + 1
 end
def uptoSmall : (H : Type) → List (DataW H) → Bool := fun _ ds => decide (uptoBulkAll ds ≤ 1048576)
def OpenSpec.upto (s : _root_.Go.ChangeSpec) : _root_.Go.OpenSpec := { _root_.Go.OpenSpec.ofChange s with cond := some uptoSmall }

/-- 'shuttlecocklaw10.DiagNames', WHERE WHAT IT READS IS OF BULK AT MOST 1048576: true; the input reads as it did. -/
def diagNamesUptoRow : OpenClaim := { program := "yteekpkbmkibacaadoor", sum := "e578662e89b1c0fc333d3bbda1fc84c9b458616153fedae3731baa452ddb1e73", func := "shuttlecock/shuttlecocklaw10.DiagNames", spec := "diagNames", unfollowed := true, recurses := true, named := ["shuttlecock/diag.kinds"], apart := false, laid := [("shuttlecock/diag.kinds", laid_shuttlecock_diag_kinds)], narrowed := true }
def DiagNamesUptoSaid : Prop := diagNamesUptoRow.holds Tryd.pinned (OpenSpec.upto diagNamesSpec)

/-- 'shuttlecocklaw03.AstExprs', WHERE WHAT IT READS IS OF BULK AT MOST 1048576: true; the input reads as it did. -/
def astExprsUptoRow : OpenClaim := { program := "yteekpkbmkibacaadoor", sum := "e578662e89b1c0fc333d3bbda1fc84c9b458616153fedae3731baa452ddb1e73", func := "shuttlecock/shuttlecocklaw03.AstExprs", spec := "astExprs", unfollowed := true, recurses := true, named := ["shuttlecock/ast.words"], loops := true, apart := false, laid := [("shuttlecock/ast.words", laid_shuttlecock_ast_words)], narrowed := true }
def AstExprsUptoSaid : Prop := astExprsUptoRow.holds Tryd.pinned (OpenSpec.upto astExprsSpec)

/-- 'shuttlecocklaw10.DiagTells', WHERE WHAT IT READS IS OF BULK AT MOST 1048576: true; the input reads as it did. -/
def diagTellsUptoRow : OpenClaim := { program := "yteekpkbmkibacaadoor", sum := "e578662e89b1c0fc333d3bbda1fc84c9b458616153fedae3731baa452ddb1e73", func := "shuttlecock/shuttlecocklaw10.DiagTells", spec := "diagTells", unfollowed := true, recurses := true, named := ["shuttlecock/diag.kinds"], apart := false, laid := [("shuttlecock/diag.kinds", laid_shuttlecock_diag_kinds)], narrowed := true }
def DiagTellsUptoSaid : Prop := diagTellsUptoRow.holds Tryd.pinned (OpenSpec.upto diagTellsSpec)

/-- 'shuttlecocklaw03.AstLists', WHERE WHAT IT READS IS OF BULK AT MOST 1048576: true; the input reads as it did. -/
def astListsUptoRow : OpenClaim := { program := "yteekpkbmkibacaadoor", sum := "e578662e89b1c0fc333d3bbda1fc84c9b458616153fedae3731baa452ddb1e73", func := "shuttlecock/shuttlecocklaw03.AstLists", spec := "astLists", unfollowed := true, recurses := true, named := ["shuttlecock/ast.words"], apart := false, laid := [("shuttlecock/ast.words", laid_shuttlecock_ast_words)], narrowed := true }
def AstListsUptoSaid : Prop := astListsUptoRow.holds Tryd.pinned (OpenSpec.upto astListsSpec)

/-- 'shuttlecocklaw14.GridApart', WHERE WHAT IT READS IS OF BULK AT MOST 1048576: true; the input reads as it did. -/
def gridApartUptoRow : OpenClaim := { program := "yteekpkbmkibacaadoor", sum := "e578662e89b1c0fc333d3bbda1fc84c9b458616153fedae3731baa452ddb1e73", func := "shuttlecock/shuttlecocklaw14.GridApart", spec := "gridApart", unfollowed := true, recurses := true, named := ["shuttlecock/diag.kinds"], apart := false, laid := [("shuttlecock/diag.kinds", laid_shuttlecock_diag_kinds)], narrowed := true }
def GridApartUptoSaid : Prop := gridApartUptoRow.holds Tryd.pinned (OpenSpec.upto gridApartSpec)

/-- 'shuttlecocklaw03.AstPrograms', WHERE WHAT IT READS IS OF BULK AT MOST 1048576: true; the input reads as it did. -/
def astProgramsUptoRow : OpenClaim := { program := "yteekpkbmkibacaadoor", sum := "e578662e89b1c0fc333d3bbda1fc84c9b458616153fedae3731baa452ddb1e73", func := "shuttlecock/shuttlecocklaw03.AstPrograms", spec := "astPrograms", unfollowed := true, recurses := true, named := ["shuttlecock/ast.words"], loops := true, apart := false, laid := [("shuttlecock/ast.words", laid_shuttlecock_ast_words)], narrowed := true }
def AstProgramsUptoSaid : Prop := astProgramsUptoRow.holds Tryd.pinned (OpenSpec.upto astProgramsSpec)

end Rows
end Go.Proofs.YteekpkbmkibacaaDoor
