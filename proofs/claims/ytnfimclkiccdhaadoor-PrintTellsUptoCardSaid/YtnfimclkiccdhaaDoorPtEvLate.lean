import Derived.Test.YtnfimclkiccdhaaDoorPtEvChain
/-! An element that is written behind its append. -/
namespace Go.Proofs.Ev
set_option linter.unusedSimpArgs false
set_option linter.unusedVariables false
open Go
variable {P : Program}

end Go.Proofs.Ev

