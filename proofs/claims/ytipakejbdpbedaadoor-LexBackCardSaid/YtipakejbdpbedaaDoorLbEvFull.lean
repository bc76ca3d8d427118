import Derived.Test.YtipakejbdpbedaaDoorLbEvMore
import Derived.Test.YtipakejbdpbedaaDoorLbEvFrz
import Derived.Test.YtipakejbdpbedaaDoorLbEvSeqLate
import Derived.Test.YtipakejbdpbedaaDoorLbEvCut
/-! A row that is built full, and what may be told for what. -/
namespace Go.Proofs.Ev
set_option linter.unusedSimpArgs false
set_option linter.unusedVariables false
open Go
variable {F : Fr} {P : Program} {Γ : List (Nat × List AV)}
end Go.Proofs.Ev

