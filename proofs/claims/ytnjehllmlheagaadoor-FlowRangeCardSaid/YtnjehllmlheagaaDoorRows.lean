/-
  NARROWER THAN 'FOR EVERY INPUT', by the rows' own cells (each row's printed sentence says how): FlowRange: laid · FlowChecks: laid · RunFront: laid.
  DERIVED. THE GIVEN ROWS OF THIS SEAT. 3 by the template 'for every input the law returns true; each argument reads behind the call as it read before'; 0 by the template 'total and deterministic' (their statements: YtnjehllmlheagaaDoorTotals.lean).
  GIVEN WITH THE SEED: the statements are not yours to turn. If you find one false, say at which input.
  Laid BY PROGRAM, IN A SANDBOX (cutbox-rows.mjs): the forced cells as the released guide's own fill.sh prints them over the translation 8bee1be176d3b31e… (all of the seat's roots in one cut). By AI agents, Wed Nov 11 2026. No macro, syntax, notation, axiom, sorry.
-/
import Derived.Test.YtnjehllmlheagaaDoorChecked
import GoSem.Claim
import GoSem.ClaimJoined
import GoSem.ClaimMapViews
import Derived.JoinedTies
import Derived.KernelRfl
namespace Go.Proofs.YtnjehllmlheagaaDoor
/- THE CELL 'sum', in the pinned program and in every row, IS THE sha256 OF THE DUMP (.gsa) THAT YtnjehllmlheagaaDoorProg.lean LOADS. Nothing in Lean hashes anything: it is a label: what it is worth is what the hold of that sum in a sandbox is worth. -/
noncomputable def Tryd.pinned : Pinned := { name := "ytnjehllmlheagaadoor", sum := "8bee1be176d3b31e6e4e426dc71af817634f70c755c772c451afa4297c43d029", checked := Tryd.checked }
namespace Rows
def none {H : Type} : Left H := { results := [], args := [] }

/- WHAT THE LISTED PACKAGE-LEVEL VARIABLES READ AS WHEN THE CALL BEGINS. Each datum BY PROGRAM (the guide's laid-datum.mjs) off the statement by which the dump's own 'gosem.cut.vars' lays the variable. In a bare row this is a premise. The card (YtnjehllmlheagaaDoorCards.lean) ties it to the program's text. -/
def laid_shuttlecock_ast_words {H : Type} : DataW H := .map [(.string [97, 110, 100], .lit (.bool true)), (.string [98, 111, 111, 108], .lit (.bool true)), (.string [99, 111, 110, 115, 116], .lit (.bool true)), (.string [100, 105, 118], .lit (.bool true)), (.string [101, 108, 115, 101], .lit (.bool true)), (.string [102, 97, 108, 115, 101], .lit (.bool true)), (.string [105, 102], .lit (.bool true)), (.string [105, 110, 116], .lit (.bool true)), (.string [108, 101, 116], .lit (.bool true)), (.string [109, 111, 100], .lit (.bool true)), (.string [110, 111, 100, 101], .lit (.bool true)), (.string [110, 111, 116], .lit (.bool true)), (.string [111, 114], .lit (.bool true)), (.string [112, 114, 101], .lit (.bool true)), (.string [114, 101, 116, 117, 114, 110, 115], .lit (.bool true)), (.string [116, 101, 108], .lit (.bool true)), (.string [116, 104, 101, 110], .lit (.bool true)), (.string [116, 114, 117, 101], .lit (.bool true)), (.string [118, 97, 114], .lit (.bool true)), (.string [120, 111, 114], .lit (.bool true))]
def laid_shuttlecock_diag_kinds {H : Type} : DataW H := .slice [.agg [.lit (.int .i64 0), .lit (.int .i64 0), .lit (.int .i64 9223372036854775807), .lit (.int .i64 0)], .agg [.lit (.int .i64 0), .lit (.int .i64 0), .lit (.int .i64 1), .lit (.int .i64 0)], .agg [.lit (.int .i64 0), .lit (.int .i64 1), .lit (.int .i64 0), .lit (.int .i64 1)], .agg [.lit (.int .i64 1), .lit (.int .i64 15), .lit (.int .i64 0), .lit (.int .i64 2)], .agg [.lit (.int .i64 0), .lit (.int .i64 1), .lit (.int .i64 0), .lit (.int .i64 1)], .agg [.lit (.int .i64 0), .lit (.int .i64 0), .lit (.int .i64 0), .lit (.int .i64 2)], .agg [.lit (.int .i64 0), .lit (.int .i64 0), .lit (.int .i64 0), .lit (.int .i64 3)], .agg [.lit (.int .i64 0), .lit (.int .i64 0), .lit (.int .i64 0), .lit (.int .i64 (-1))]] []
def laid_shuttlecock_flow_rules {H : Type} : DataW H := .slice [.agg [.lit (.int .i64 1), .lit (.int .i64 1)], .agg [.lit (.int .i64 1), .lit (.int .i64 1)], .agg [.lit (.int .i64 1), .lit (.int .i64 1)], .agg [.lit (.int .i64 1), .lit (.int .i64 1)], .agg [.lit (.int .i64 2), .lit (.int .i64 1)], .agg [.lit (.int .i64 2), .lit (.int .i64 1)], .agg [.lit (.int .i64 0), .lit (.int .i64 1)], .agg [.lit (.int .i64 0), .lit (.int .i64 1)], .agg [.lit (.int .i64 0), .lit (.int .i64 1)], .agg [.lit (.int .i64 0), .lit (.int .i64 1)], .agg [.lit (.int .i64 0), .lit (.int .i64 0)], .agg [.lit (.int .i64 0), .lit (.int .i64 0)], .agg [.lit (.int .i64 0), .lit (.int .i64 0)], .agg [.lit (.int .i64 0), .lit (.int .i64 0)], .agg [.lit (.int .i64 0), .lit (.int .i64 0)]] []
def laid_shuttlecock_sem_ops {H : Type} : DataW H := .iface "func table" (.slice [.nil, .iface "func" (.lit (.string [115, 104, 117, 116, 116, 108, 101, 99, 111, 99, 107, 47, 115, 101, 109, 46, 111, 112, 115, 36, 49])), .iface "func" (.lit (.string [115, 104, 117, 116, 116, 108, 101, 99, 111, 99, 107, 47, 115, 101, 109, 46, 111, 112, 115, 36, 50])), .iface "func" (.lit (.string [115, 104, 117, 116, 116, 108, 101, 99, 111, 99, 107, 47, 115, 101, 109, 46, 111, 112, 115, 36, 51])), .iface "func" (.lit (.string [115, 104, 117, 116, 116, 108, 101, 99, 111, 99, 107, 47, 115, 101, 109, 46, 111, 112, 115, 36, 52])), .iface "func" (.lit (.string [115, 104, 117, 116, 116, 108, 101, 99, 111, 99, 107, 47, 115, 101, 109, 46, 111, 112, 115, 36, 53])), .iface "func" (.lit (.string [115, 104, 117, 116, 116, 108, 101, 99, 111, 99, 107, 47, 115, 101, 109, 46, 111, 112, 115, 36, 54])), .iface "func" (.lit (.string [115, 104, 117, 116, 116, 108, 101, 99, 111, 99, 107, 47, 115, 101, 109, 46, 111, 112, 115, 36, 55])), .iface "func" (.lit (.string [115, 104, 117, 116, 116, 108, 101, 99, 111, 99, 107, 47, 115, 101, 109, 46, 111, 112, 115, 36, 56])), .iface "func" (.lit (.string [115, 104, 117, 116, 116, 108, 101, 99, 111, 99, 107, 47, 115, 101, 109, 46, 111, 112, 115, 36, 57])), .iface "func" (.lit (.string [115, 104, 117, 116, 116, 108, 101, 99, 111, 99, 107, 47, 115, 101, 109, 46, 111, 112, 115, 36, 49, 48])), .iface "func" (.lit (.string [115, 104, 117, 116, 116, 108, 101, 99, 111, 99, 107, 47, 115, 101, 109, 46, 111, 112, 115, 36, 49, 49])), .iface "func" (.lit (.string [115, 104, 117, 116, 116, 108, 101, 99, 111, 99, 107, 47, 115, 101, 109, 46, 111, 112, 115, 36, 49, 50])), .iface "func" (.lit (.string [115, 104, 117, 116, 116, 108, 101, 99, 111, 99, 107, 47, 115, 101, 109, 46, 111, 112, 115, 36, 49, 51])), .iface "func" (.lit (.string [115, 104, 117, 116, 116, 108, 101, 99, 111, 99, 107, 47, 115, 101, 109, 46, 100, 105, 118, 105, 100, 101])), .iface "func" (.lit (.string [115, 104, 117, 116, 116, 108, 101, 99, 111, 99, 107, 47, 115, 101, 109, 46, 114, 101, 115, 116]))] [])

/-- 'shuttlecocklaw11.FlowRange': WHATEVER THE INPUT: true; the input reads as it did. -/
def flowRangeSpec : ChangeSpec := { name := "flowRange", fn := fun _ => fun
  | [d1, d2] => { results := [.lit (.bool true)], args := [d1, d2] }
  | _ => none }
def flowRangeRow : OpenClaim := { program := "ytnjehllmlheagaadoor", sum := "8bee1be176d3b31e6e4e426dc71af817634f70c755c772c451afa4297c43d029", func := "shuttlecock/shuttlecocklaw11.FlowRange", spec := "flowRange", unfollowed := true, recurses := true, named := ["shuttlecock/diag.kinds", "shuttlecock/ast.words", "shuttlecock/flow.rules"], plainKeys := false, apart := false, laid := [("shuttlecock/ast.words", laid_shuttlecock_ast_words), ("shuttlecock/diag.kinds", laid_shuttlecock_diag_kinds), ("shuttlecock/flow.rules", laid_shuttlecock_flow_rules)] }
def FlowRangeSaid : Prop := flowRangeRow.holds Tryd.pinned (OpenSpec.ofChange flowRangeSpec)

/-- ITS FALSE NEIGHBOUR: 'it returns false'. Refute it at one input. -/
def flowRangeWrong : ChangeSpec := { name := "flowRange", fn := fun _ => fun
  | [d1, d2] => { results := [.lit (.bool false)], args := [d1, d2] }
  | _ => none }
def FlowRangeWrongFalsely : Prop := flowRangeRow.holds Tryd.pinned (OpenSpec.ofChange flowRangeWrong)

/-- 'shuttlecocklaw11.FlowChecks': WHATEVER THE INPUT: true; the input reads as it did. -/
def flowChecksSpec : ChangeSpec := { name := "flowChecks", fn := fun _ => fun
  | [d1, d2, d3] => { results := [.lit (.bool true)], args := [d1, d2, d3] }
  | _ => none }
def flowChecksRow : OpenClaim := { program := "ytnjehllmlheagaadoor", sum := "8bee1be176d3b31e6e4e426dc71af817634f70c755c772c451afa4297c43d029", func := "shuttlecock/shuttlecocklaw11.FlowChecks", spec := "flowChecks", unfollowed := true, recurses := true, named := ["shuttlecock/diag.kinds", "shuttlecock/ast.words", "shuttlecock/flow.rules"], plainKeys := false, apart := false, laid := [("shuttlecock/ast.words", laid_shuttlecock_ast_words), ("shuttlecock/diag.kinds", laid_shuttlecock_diag_kinds), ("shuttlecock/flow.rules", laid_shuttlecock_flow_rules)] }
def FlowChecksSaid : Prop := flowChecksRow.holds Tryd.pinned (OpenSpec.ofChange flowChecksSpec)

/-- ITS FALSE NEIGHBOUR: 'it returns false'. Refute it at one input. -/
def flowChecksWrong : ChangeSpec := { name := "flowChecks", fn := fun _ => fun
  | [d1, d2, d3] => { results := [.lit (.bool false)], args := [d1, d2, d3] }
  | _ => none }
def FlowChecksWrongFalsely : Prop := flowChecksRow.holds Tryd.pinned (OpenSpec.ofChange flowChecksWrong)

/-- 'shuttlecocklaw12.RunFront': WHATEVER THE INPUT: true; the input reads as it did. -/
def runFrontSpec : ChangeSpec := { name := "runFront", fn := fun _ => fun
  | [d1, d2, d3] => { results := [.lit (.bool true)], args := [d1, d2, d3] }
  | _ => none }
def runFrontRow : OpenClaim := { program := "ytnjehllmlheagaadoor", sum := "8bee1be176d3b31e6e4e426dc71af817634f70c755c772c451afa4297c43d029", func := "shuttlecock/shuttlecocklaw12.RunFront", spec := "runFront", unfollowed := true, recurses := true, named := ["shuttlecock/diag.kinds", "shuttlecock/ast.words", "shuttlecock/flow.rules", "shuttlecock/sem.ops"], plainKeys := false, apart := false, laid := [("shuttlecock/ast.words", laid_shuttlecock_ast_words), ("shuttlecock/diag.kinds", laid_shuttlecock_diag_kinds), ("shuttlecock/flow.rules", laid_shuttlecock_flow_rules), ("shuttlecock/sem.ops", laid_shuttlecock_sem_ops)] }
def RunFrontSaid : Prop := runFrontRow.holds Tryd.pinned (OpenSpec.ofChange runFrontSpec)

/-- ITS FALSE NEIGHBOUR: 'it returns false'. Refute it at one input. -/
def runFrontWrong : ChangeSpec := { name := "runFront", fn := fun _ => fun
  | [d1, d2, d3] => { results := [.lit (.bool false)], args := [d1, d2, d3] }
  | _ => none }
def RunFrontWrongFalsely : Prop := runFrontRow.holds Tryd.pinned (OpenSpec.ofChange runFrontWrong)

/- THE SECOND FORM. 'bulk': how many values and letters a reading holds, each counted each time it is reached (what is shared counts as often as it is met; a slice's spare places count too). A statement '..UptoSaid' is the law's where the arguments, and the package variables that the reading takes, are together of bulk at most 1048576: NARROWER than '..Said'. Prove '..Said' where nothing that the law and all that it calls make is longer than what came in: it says more and counts as full. Else prove '..UptoSaid'. A law counts once. -/
mutual
def uptoBulk {H : Type} : DataW H → Nat
  | .lit (.string bytes) => bytes.length + 1
  | .lit _ => 1
  | .nil => 1
  | .ptr d => uptoBulk d + 1
  | .slice elems spare => uptoBulkAll elems + uptoBulkAll spare + 1
  | .agg parts => uptoBulkAll parts + 1
  | .iface _ d => uptoBulk d + 1
  | .map entries => uptoBulkEntries entries + 1
  | .held _ => 1
def uptoBulkAll {H : Type} : List (DataW H) → Nat
  | [] => 0
  | d :: r => uptoBulk d + uptoBulkAll r
def uptoBulkEntries {H : Type} : List (Lit × DataW H) → Nat
  | [] => 0
  | x :: r => uptoBulkEntry x + uptoBulkEntries r
def uptoBulkEntry {H : Type} : Lit × DataW H → Nat
  | (.string bytes, d) => bytes.length + uptoBulk d + 1
  | (_, d) => uptoBulk d + 1
 end
def uptoSmall : (H : Type) → List (DataW H) → Bool := fun _ ds => decide (uptoBulkAll ds ≤ 1048576)
def OpenSpec.upto (s : _root_.Go.ChangeSpec) : _root_.Go.OpenSpec := { _root_.Go.OpenSpec.ofChange s with cond := some uptoSmall }

/-- 'shuttlecocklaw11.FlowRange', WHERE WHAT IT READS IS OF BULK AT MOST 1048576: true; the input reads as it did. -/
def flowRangeUptoRow : OpenClaim := { program := "ytnjehllmlheagaadoor", sum := "8bee1be176d3b31e6e4e426dc71af817634f70c755c772c451afa4297c43d029", func := "shuttlecock/shuttlecocklaw11.FlowRange", spec := "flowRange", unfollowed := true, recurses := true, named := ["shuttlecock/diag.kinds", "shuttlecock/ast.words", "shuttlecock/flow.rules"], plainKeys := false, apart := false, laid := [("shuttlecock/ast.words", laid_shuttlecock_ast_words), ("shuttlecock/diag.kinds", laid_shuttlecock_diag_kinds), ("shuttlecock/flow.rules", laid_shuttlecock_flow_rules)], narrowed := true }
def FlowRangeUptoSaid : Prop := flowRangeUptoRow.holds Tryd.pinned (OpenSpec.upto flowRangeSpec)

/-- 'shuttlecocklaw11.FlowChecks', WHERE WHAT IT READS IS OF BULK AT MOST 1048576: true; the input reads as it did. -/
def flowChecksUptoRow : OpenClaim := { program := "ytnjehllmlheagaadoor", sum := "8bee1be176d3b31e6e4e426dc71af817634f70c755c772c451afa4297c43d029", func := "shuttlecock/shuttlecocklaw11.FlowChecks", spec := "flowChecks", unfollowed := true, recurses := true, named := ["shuttlecock/diag.kinds", "shuttlecock/ast.words", "shuttlecock/flow.rules"], plainKeys := false, apart := false, laid := [("shuttlecock/ast.words", laid_shuttlecock_ast_words), ("shuttlecock/diag.kinds", laid_shuttlecock_diag_kinds), ("shuttlecock/flow.rules", laid_shuttlecock_flow_rules)], narrowed := true }
def FlowChecksUptoSaid : Prop := flowChecksUptoRow.holds Tryd.pinned (OpenSpec.upto flowChecksSpec)

/-- 'shuttlecocklaw12.RunFront', WHERE WHAT IT READS IS OF BULK AT MOST 1048576: true; the input reads as it did. -/
def runFrontUptoRow : OpenClaim := { program := "ytnjehllmlheagaadoor", sum := "8bee1be176d3b31e6e4e426dc71af817634f70c755c772c451afa4297c43d029", func := "shuttlecock/shuttlecocklaw12.RunFront", spec := "runFront", unfollowed := true, recurses := true, named := ["shuttlecock/diag.kinds", "shuttlecock/ast.words", "shuttlecock/flow.rules", "shuttlecock/sem.ops"], plainKeys := false, apart := false, laid := [("shuttlecock/ast.words", laid_shuttlecock_ast_words), ("shuttlecock/diag.kinds", laid_shuttlecock_diag_kinds), ("shuttlecock/flow.rules", laid_shuttlecock_flow_rules), ("shuttlecock/sem.ops", laid_shuttlecock_sem_ops)], narrowed := true }
def RunFrontUptoSaid : Prop := runFrontUptoRow.holds Tryd.pinned (OpenSpec.upto runFrontSpec)

end Rows
end Go.Proofs.YtnjehllmlheagaaDoor
