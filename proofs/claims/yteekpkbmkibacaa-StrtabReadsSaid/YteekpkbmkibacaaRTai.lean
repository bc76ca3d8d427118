import Derived.Test.YteekpkbmkibacaaRTah
/-! The law StrtabAdds. -/
namespace Go.Proofs.Try
set_option linter.unusedSimpArgs false
set_option linter.unusedVariables false
open Go Go.Proofs.Ev
variable {Γ : List (Nat × List AV)}
def OKw (k : Nat) (w : List ByteArray) : Prop := w.Nodup ∧ w.length ≤ k ∧ ∀ s ∈ w, s.size ≤ 65560
theorem findS_mem : ∀ {l : List ByteArray} {s : ByteArray}, s ∈ l → (findS l s).isSome = true
  | [], _, h => by cases h
  | a :: l, s, h => by
    by_cases e : s = a
    · simp [findS, e]
    · rcases List.mem_cons.1 h with h | h
      · exact absurd h e
      · have := findS_mem h
        simp [findS, e, this]
theorem OKw.add {k : Nat} {w : List ByteArray} (h : OKw k w) {s : ByteArray} (hs : s.size ≤ 65560) : OKw (k + 1) (addL w s) := by
  obtain ⟨h1, h2, h3⟩ := h
  unfold addL
  split
  · exact ⟨h1, by omega, h3⟩
  · rename_i hf
    split
    · exact ⟨h1, by omega, h3⟩
    · refine ⟨List.nodup_append.2 ⟨h1, by simp, fun a ha b hb => ?_⟩, by simp; omega, fun t ht => ?_⟩
      · simp only [List.mem_singleton] at hb
        subst hb
        exact fun e => hf (findS_mem (e ▸ ha))
      · simp only [List.mem_append, List.mem_singleton] at ht
        rcases ht with ht | rfl
        · exact h3 t ht
        · exact hs
def hd (s : ByteArray) : UInt8 := s.data.toList.headD 0
attribute [-go_sem] mk25
end Go.Proofs.Try

