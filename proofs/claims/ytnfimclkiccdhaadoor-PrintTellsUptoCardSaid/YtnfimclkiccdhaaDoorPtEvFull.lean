import Derived.Test.YtnfimclkiccdhaaDoorPtEvMore
import Derived.Test.YtnfimclkiccdhaaDoorPtEvFrz
import Derived.Test.YtnfimclkiccdhaaDoorPtEvSeqLate
import Derived.Test.YtnfimclkiccdhaaDoorPtEvCut
/-! A row that is built full, and what may be told for what. -/
namespace Go.Proofs.Ev
set_option linter.unusedSimpArgs false
set_option linter.unusedVariables false
open Go
variable {F : Fr} {P : Program} {Γ : List (Nat × List AV)}
end Go.Proofs.Ev

