import Derived.Test.YtnfimclkiccdhaaDoorPtEvRow
/-! Searches. -/
namespace Go.Proofs.Ev
set_option linter.unusedSimpArgs false
set_option linter.unusedVariables false
open Go
def idxFrom {α : Type} (p : α → Bool) (i : Nat) : List α → Int
  | [] => -1
  | a :: l => if p a then i else idxFrom p (i + 1) l
theorem idxFrom_nonneg {α : Type} (p : α → Bool) : ∀ (l : List α) (i : Nat), decide (idxFrom p i l ≥ 0) = l.any p
  | [], _ => by simp [idxFrom]
  | a :: l, i => by
    simp only [idxFrom, List.any_cons]
    split
    · rename_i h
      simp [h]
    · rename_i h
      simp only [Bool.not_eq_true] at h
      rw [idxFrom_nonneg p l (i + 1), h, Bool.false_or]
theorem idxFrom_drop {α : Type} (p : α → Bool) (l : List α) (i : Nat) (h : i < l.length) : idxFrom p i (l.drop i) = if p l[i] then (i : Int) else idxFrom p (i + 1) (l.drop (i + 1)) := by
  rw [List.drop_eq_getElem_cons h]
  rfl
theorem wrap_i64 {x : Int} (h1 : -9223372036854775808 ≤ x) (h2 : x < 9223372036854775808) : IntKind.wrap .i64 x = x := by
  have hb : IntKind.bits .i64 = 64 := rfl
  have hs : IntKind.signed .i64 = true := rfl
  simp only [IntKind.wrap, hb, hs, Bool.true_and, decide_eq_true_eq]
  split
  · rename_i h
    simp at h ⊢
    omega
  · rename_i h
    simp at h ⊢
    omega
theorem wrap_succ {i n : Nat} (h : i < n) (hn : n ≤ maxLen) : IntKind.wrap .i64 ((i : Int) + 1) = ((i + 1 : Nat) : Int) := by
  have h1 : maxLen = 9223372036854775807 := by decide
  rw [h1] at hn
  rw [wrap_i64 (by omega) (by omega)]
  omega
theorem getL {σ : Sto} {o : Nat} {a : AO} (h : σ[o]? = some a) (l : Sto) : (σ ++ l)[o]? = some a := by
  rw [List.getElem?_append_left (List.getElem?_eq_some_iff.1 h).1]
  exact h
theorem frzB {n : Nat} {σ : Sto} {a b : Bool} (h : a = b) : Frz n σ (.val (.bool a)) (.val (.bool b)) := by rw [h]; exact .keep rfl
theorem frzI {n : Nat} {σ : Sto} {k : IntKind} {a b : Int} (h : a = b) : Frz n σ (.val (.int k a)) (.val (.int k b)) := by rw [h]; exact .keep rfl
end Go.Proofs.Ev

