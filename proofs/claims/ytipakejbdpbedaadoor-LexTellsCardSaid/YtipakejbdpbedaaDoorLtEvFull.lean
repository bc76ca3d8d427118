import Derived.Test.YtipakejbdpbedaaDoorLtEvMore
import Derived.Test.YtipakejbdpbedaaDoorLtEvFrz
import Derived.Test.YtipakejbdpbedaaDoorLtEvSeqLate
import Derived.Test.YtipakejbdpbedaaDoorLtEvCut
/-! A row that is built full, and what may be told for what. -/
namespace Go.Proofs.Ev
set_option linter.unusedSimpArgs false
set_option linter.unusedVariables false
open Go
variable {F : Fr} {P : Program} {Γ : List (Nat × List AV)}
end Go.Proofs.Ev

