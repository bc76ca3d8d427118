import Derived.Test.YtipakejbdpbedaaDoorLtEvIter
/-! Lists: what loops over them come to. -/
namespace Go.Proofs.Ev
set_option linter.unusedSimpArgs false
set_option linter.unusedVariables false
open Go
variable {P : Program} {Γ : List (Nat × List AV)}
theorem frz_row {α : Type} {en : α → AV} (h : ∀ a n, (en a).bel n = true) {n k sz : Nat} {σ : Sto} (hk : n ≤ k) (l : List α) : Frz n σ (.slo true sz (l.map en) k) (rowAV sz true (l.map en)) := by
  cases l with
  | nil => exact .ownNil
  | cons a l => exact .own hk (by simp) (FrzR.keep (belL_map (n := n) en (a :: l) fun x _ => h x n))
theorem fits_of {n b : Nat} (hn : n ≤ 2097152) (hb : b ≤ 4096) : fits n b = true := by
  have h1 : n * b ≤ 2097152 * 4096 := Nat.mul_le_mul hn hb
  simp only [fits, Bool.and_eq_true, decide_eq_true_eq]
  omega
theorem take_at {α : Type} (en : α → AV) {l : List α} {j : Nat} (hj : j < l.length) : (l.take j).map en ++ [en l[j]] = (l.take (j + 1)).map en := by
  rw [List.take_succ_eq_append_getElem hj, List.map_append]
  rfl
theorem maxLen_eq : maxLen = 9223372036854775807 := by decide
/-- What a function left behind is forgotten; what lived may have turned. -/
theorem ACalls.trunc {f : FuncId} {args : List AV} {σ : Sto} {R R' : AV → Sto → Prop} (h : ACalls P Γ f args σ R') (hr : ∀ v σ', R' v σ' → ∃ σ1 ρ, σ' = σ1 ++ ρ ∧ σ1.length = σ.length ∧ (∀ (i : Nat) (a : AO), σ1[i]? = some a → σ[i]? = some a ∨ a.bel σ.length = true) ∧ v.bel σ.length = true ∧ R v σ1) : ACalls P Γ f args σ R := by
  intro C xs h1 h2 h3 h4
  refine (h C xs h1 h2 h3 h4).mono ?_
  rintro e w' ⟨D, x, v, rfl, rfl, k2, k3, k4, k5⟩
  obtain ⟨σ1, ρ, e1, e2, e3, e4, e5⟩ := hr _ _ k5
  have hl : C.σ.length = σ.length := by rw [h1]
  have htk : (D.trunc C.σ.length).σ = σ1 := by
    show D.σ.take C.σ.length = _
    rw [e1, List.take_left' (by rw [e2, hl])]
  refine ⟨D.trunc C.σ.length, x, v, rfl, rfl, trunc_ext k2 rfl, trunc_bel k3 fun i a hi ha => ?_, RelV.keep (trunc_less _ _) (by rw [hl]; exact e4) k4, by rw [htk]; exact e5⟩
  have hx : σ1[i]? = some a := by
    rw [← htk]
    show (D.σ.take _)[i]? = _
    rw [List.getElem?_take, if_pos hi]
    exact ha
  rcases e3 i a hx with h | h
  · exact h2.bel (by rw [h1]; exact h)
  · rw [hl]
    exact h
end Go.Proofs.Ev

