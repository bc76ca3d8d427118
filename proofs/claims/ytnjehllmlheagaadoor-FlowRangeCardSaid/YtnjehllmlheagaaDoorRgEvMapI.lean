import Derived.Test.YtnjehllmlheagaaDoorRgEvSeqm
/-! Entries of maps that are set at once; maps whose keys are ints. -/
namespace Go.Proofs.Ev
set_option linter.unusedSimpArgs false
set_option linter.unusedVariables false
open Go
variable {F : Fr} {P : Program} {Γ : List (Nat × List AV)}
end Go.Proofs.Ev

