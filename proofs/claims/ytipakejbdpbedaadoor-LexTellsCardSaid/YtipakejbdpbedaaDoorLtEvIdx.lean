import Derived.Test.YtipakejbdpbedaaDoorLtEvRow
/-! Searches. -/
namespace Go.Proofs.Ev
set_option linter.unusedSimpArgs false
set_option linter.unusedVariables false
open Go
theorem wrap_i64 {x : Int} (h1 : -9223372036854775808 ≤ x) (h2 : x < 9223372036854775808) : IntKind.wrap .i64 x = x := by
  have hb : IntKind.bits .i64 = 64 := rfl
  have hs : IntKind.signed .i64 = true := rfl
  simp only [IntKind.wrap, hb, hs, Bool.true_and, decide_eq_true_eq]
  split
  · rename_i h
    simp at h ⊢
    omega
  · rename_i h
    simp at h ⊢
    omega
theorem wrap_succ {i n : Nat} (h : i < n) (hn : n ≤ maxLen) : IntKind.wrap .i64 ((i : Int) + 1) = ((i + 1 : Nat) : Int) := by
  have h1 : maxLen = 9223372036854775807 := by decide
  rw [h1] at hn
  rw [wrap_i64 (by omega) (by omega)]
  omega
theorem frzB {n : Nat} {σ : Sto} {a b : Bool} (h : a = b) : Frz n σ (.val (.bool a)) (.val (.bool b)) := by rw [h]; exact .keep rfl
end Go.Proofs.Ev

