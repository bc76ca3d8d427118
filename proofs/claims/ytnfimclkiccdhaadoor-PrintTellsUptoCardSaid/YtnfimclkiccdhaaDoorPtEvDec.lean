import Derived.Test.YtnfimclkiccdhaaDoorPtEvMore
/-! Arguments' readings as plain things. -/
namespace Go.Proofs.Ev
set_option linter.unusedSimpArgs false
set_option linter.unusedVariables false
open Go
variable {P : Program} {H : Type} {enc : TypeId × Value → H} {W : World} {base : Nat} {spare : Nat → Bool} {held : Bool}
theorem CellsOf.start (cs : List Value) : CellsOf W [] (cs.take 0) := ⟨trivial, fun v hv => by simp at hv⟩
theorem CellsOf.snoc {as bs : List AV} {cs : List Value} {k m : Nat} (h : CellsOf W as (cs.take k)) (h2 : CellsOf W bs ((cs.drop k).take m)) : CellsOf W (as ++ bs) (cs.take (k + m)) := by
  rw [List.take_add]
  exact h.append h2
theorem CellsOf.all {as : List AV} {cs : List Value} {k : Nat} (h : CellsOf W as (cs.take k)) (hl : cs.length = k) : CellsOf W as cs := by
  rwa [List.take_of_length_le (by omega)] at h
/-- An argument that is a struct, by its cells. -/
theorem arg_agg {r : Reach} {b0 : Nat} {t : TypeId} {fs : Array Field} {v : Value} (ht : P.underlying t = some (.struct fs)) (hv : Value.okWide P W r b0 t v) : ∃ cs, v = .agg cs := by
  unfold Value.okWide at hv
  rw [ht] at hv
  obtain ⟨cs, h, _⟩ := hv
  exact ⟨cs, h⟩
theorem rel_agg {as : List AV} {cs : Array Value} (h : CellsOf W as cs.toList) : RelV (C0 W) (.agg as) (.agg cs) := ⟨cs.toList, by simp, h.1⟩
end Go.Proofs.Ev

