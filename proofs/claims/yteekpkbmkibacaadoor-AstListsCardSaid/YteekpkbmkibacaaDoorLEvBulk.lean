import Derived.Test.YteekpkbmkibacaaDoorLEvDec
/-! Arguments' readings, and how much they hold. -/
namespace Go.Proofs.Ev
set_option linter.unusedSimpArgs false
set_option linter.unusedVariables false
open Go
variable {P : Program} {H : Type} {enc : TypeId × Value → H} {W : World} {base : Nat} {spare : Nat → Bool} {held : Bool}
inductive Pairs {α β : Type} (R : α → β → Prop) : List α → List β → Prop
  | nil : Pairs R [] []
  | cons {a : α} {b : β} {l : List α} {m : List β} : R a b → Pairs R l m → Pairs R (a :: l) (b :: m)
theorem Pairs.length {α β : Type} {R : α → β → Prop} {l : List α} {m : List β} (h : Pairs R l m) : l.length = m.length := by
  induction h with
  | nil => rfl
  | cons _ _ ih => simp [ih]
theorem Pairs.sum {α β : Type} {R : α → β → Prop} {f : α → Nat} {g : β → Nat} {l : List α} {m : List β} (h : Pairs R l m) (hr : ∀ a b, R a b → f a ≤ g b) : (l.map f).sum ≤ (m.map g).sum := by
  induction h with
  | nil => exact Nat.le_refl _
  | cons h1 _ ih =>
    have := hr _ _ h1
    simp only [List.map_cons, List.sum_cons]
    omega
/-- What a measure of readings must keep. -/
structure Bulk (B : DataW H → Nat) : Prop where
  slice : ∀ es sp, (es.map B).sum + 1 ≤ B (.slice es sp)
  pos : ∀ d, 1 ≤ B d
  agg : ∀ ps, (ps.map B).sum + 1 ≤ B (.agg ps)
  str : ∀ bs, bs.length + 1 ≤ B (.lit (.string bs))
theorem Bulk.row {B : DataW H → Nat} (hB : Bulk B) {x : DataW H} {ds sp : List (DataW H)} (h : (x = .nil ∧ ds = []) ∨ x = .slice ds sp) : (ds.map B).sum + 1 ≤ B x := by
  rcases h with ⟨rfl, rfl⟩ | rfl
  · exact hB.pos _
  · exact hB.slice _ _
theorem Bulk.len {B : DataW H → Nat} (hB : Bulk B) (ds : List (DataW H)) : ds.length ≤ (ds.map B).sum := by
  induction ds with
  | nil => exact Nat.le_refl _
  | cons d ds ih =>
    have := hB.pos d
    simp only [List.map_cons, List.sum_cons, List.length_cons]
    omega
end Go.Proofs.Ev

