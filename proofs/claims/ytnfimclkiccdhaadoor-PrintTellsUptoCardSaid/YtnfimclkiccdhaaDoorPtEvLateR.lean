import Derived.Test.YtnfimclkiccdhaaDoorPtEvLate
/-! An element that is written behind its append: regions. -/
namespace Go.Proofs.Ev
set_option linter.unusedSimpArgs false
set_option linter.unusedVariables false
open Go
variable {F : Fr} {P : Program} {Γ : List (Nat × List AV)}
end Go.Proofs.Ev

