import Derived.Test.YtnfimclkiccdhaaDoorPtEvF
/-! What lives is frozen while the code goes on. -/
namespace Go.Proofs.Ev
set_option linter.unusedSimpArgs false
set_option linter.unusedVariables false
open Go
variable {F : Fr} {P : Program} {Γ : List (Nat × List AV)}


end Go.Proofs.Ev

