import Derived.Test.YtnfimclkiccdhaaDoorPtEvLateR
/-! Code in two parts, with what lies between told; labels. -/
namespace Go.Proofs.Ev
set_option linter.unusedSimpArgs false
set_option linter.unusedVariables false
open Go
variable {F : Fr} {P : Program} {Γ : List (Nat × List AV)}
section
variable {b : Frame} {a : Act} {k : List Item} {cs : List Frame} {w : World}
end
end Go.Proofs.Ev

