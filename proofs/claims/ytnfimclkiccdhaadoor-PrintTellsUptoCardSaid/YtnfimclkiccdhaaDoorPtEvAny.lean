import Derived.Test.YtnfimclkiccdhaaDoorPtEvDraw2
/-! A drawn region in which whatever is ready may come: an invariant over what has come. -/
namespace Go.Proofs.Ev
set_option linter.unusedSimpArgs false
set_option linter.unusedVariables false
open Go
variable {F : Fr} {P : Program} {Γ : List (Nat × List AV)}
end Go.Proofs.Ev

