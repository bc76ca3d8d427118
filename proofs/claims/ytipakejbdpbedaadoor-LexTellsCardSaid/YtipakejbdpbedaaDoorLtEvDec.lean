import Derived.Test.YtipakejbdpbedaaDoorLtEvMore
/-! Arguments' readings as plain things. -/
namespace Go.Proofs.Ev
set_option linter.unusedSimpArgs false
set_option linter.unusedVariables false
open Go
variable {P : Program} {H : Type} {enc : TypeId × Value → H} {W : World} {base : Nat} {spare : Nat → Bool} {held : Bool}
end Go.Proofs.Ev

