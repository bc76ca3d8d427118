import Derived.Test.YtnfimclkiccdhaaDoorPtEvSeqm
/-! An element that is appended in one region and written in the next; a live row that becomes one with the right to append. -/
namespace Go.Proofs.Ev
set_option linter.unusedSimpArgs false
set_option linter.unusedVariables false
open Go
variable {F : Fr} {P : Program} {Γ : List (Nat × List AV)}

/-! A row that lives becomes one that is held with the right to append to it. -/
end Go.Proofs.Ev

