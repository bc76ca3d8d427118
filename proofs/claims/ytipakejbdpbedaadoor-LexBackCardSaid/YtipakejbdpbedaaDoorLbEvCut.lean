import Derived.Test.YtipakejbdpbedaaDoorLbEvList
/-! A region, cut into parts: behind each only one temporary is told. -/
namespace Go.Proofs.Ev
set_option linter.unusedSimpArgs false
set_option linter.unusedVariables false
open Go
variable {F : Fr} {P : Program} {Γ : List (Nat × List AV)}
end Go.Proofs.Ev

