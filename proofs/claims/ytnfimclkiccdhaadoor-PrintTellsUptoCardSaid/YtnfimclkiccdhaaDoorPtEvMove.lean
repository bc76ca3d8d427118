import Derived.Test.YtnfimclkiccdhaaDoorPtEvFrz
/-! What lives as one identity lives on as a new one. -/
namespace Go.Proofs.Ev
set_option linter.unusedSimpArgs false
set_option linter.unusedVariables false
open Go
variable {F : Fr} {P : Program} {Γ : List (Nat × List AV)}
end Go.Proofs.Ev

