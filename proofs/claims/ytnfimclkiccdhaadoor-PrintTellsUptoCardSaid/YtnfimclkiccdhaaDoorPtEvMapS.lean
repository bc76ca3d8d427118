import Derived.Test.YtnfimclkiccdhaaDoorPtEvDraw4
import Derived.Test.YtnfimclkiccdhaaDoorPtEvDec
/-! Maps whose keys are strings. -/
namespace Go.Proofs.Ev
set_option linter.unusedSimpArgs false
set_option linter.unusedVariables false
open Go
variable {P : Program} {Γ : List (Nat × List AV)}
/-- The place of a text in a list. -/
def findS : List ByteArray → ByteArray → Option Nat
  | [], _ => none
  | t :: l, s => if s = t then some 0 else (findS l s).map (· + 1)
theorem aFindK_str (s : ByteArray) : ∀ (l : List ByteArray) (i : Nat), aFindK .string (.string s) (l.map Value.string) i = some ((findS l s).map (· + i))
  | [], i => rfl
  | t :: l, i => by
    simp only [List.map_cons, aFindK, Instr.sameNow, ba_beq, findS]
    by_cases h : s = t
    · simp [h]
    · simp only [h, decide_false, if_false]
      rw [aFindK_str s l (i + 1)]
      cases findS l s with
      | none => rfl
      | some j =>
        simp only [Option.map_some, Option.some.injEq]
        omega
theorem findS_lt : ∀ {l : List ByteArray} {s : ByteArray} {i : Nat}, findS l s = some i → i < l.length ∧ l[i]? = some s
  | [], _, _, h => by cases h
  | t :: l, s, i, h => by
    simp only [findS] at h
    split at h
    · rename_i e
      cases h
      exact ⟨by simp, by simp [e]⟩
    · obtain ⟨j, hj, rfl⟩ := Option.map_eq_some_iff.1 h
      obtain ⟨h1, h2⟩ := findS_lt hj
      exact ⟨by simp; omega, by simpa using h2⟩
end Go.Proofs.Ev

