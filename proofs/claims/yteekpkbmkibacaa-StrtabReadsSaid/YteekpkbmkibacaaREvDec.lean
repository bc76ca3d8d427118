import Derived.Test.YteekpkbmkibacaaREvMore
/-! Arguments' readings as plain things. -/
namespace Go.Proofs.Ev
set_option linter.unusedSimpArgs false
set_option linter.unusedVariables false
open Go
variable {P : Program} {H : Type} {enc : TypeId × Value → H} {W : World} {base : Nat} {spare : Nat → Bool} {held : Bool}
theorem CellsOf.start (cs : List Value) : CellsOf W [] (cs.take 0) := ⟨trivial, fun v hv => by simp at hv⟩
theorem CellsOf.all {as : List AV} {cs : List Value} {k : Nat} (h : CellsOf W as (cs.take k)) (hl : cs.length = k) : CellsOf W as cs := by
  rwa [List.take_of_length_le (by omega)] at h
end Go.Proofs.Ev

