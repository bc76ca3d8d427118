import Derived.Test.YtnfimclkiccdhaaDoorPtEvTac
import Derived.Below
/-! A contract of the kit's shelf, told abstractly. -/
namespace Go.Proofs.Ev
set_option linter.unusedSimpArgs false
set_option linter.unusedVariables false
open Go Go.RowKit
variable {P : Program} {Γ : List (Nat × List AV)}
theorem below_ext {C : Ctx} (hS : RelS C) {w' : World} (h : Below C.w.heap.size C.w w') : Ext C { C with w := w' } := {
  dfr := fun k hk => ⟨hk, h.block _ (hS.lim_lt ((lim_of hk).trans rfl))⟩
  fresh := fun _ h => .inl h
  size := h.size
  ids := fun _ a h1 h2 => ⟨rfl, a, h1, h2⟩
  caps := fun _ n _ h => ⟨n, h, Nat.le_refl _, fun _ => rfl⟩
  fixC := fun b off hf => ⟨cell_of_heap (h.block b hf.1), Nat.lt_of_lt_of_le hf.1 h.size, hf.2⟩
  fixB := fun b hf => ⟨h.block b hf.1, Nat.lt_of_lt_of_le hf.1 h.size, hf.2⟩
  shape := fun b arr T fr hb => ⟨arr, fr, (h.block b (lt_of_heap hb)).trans hb, rfl⟩
  os := h.os
  tape := h.tape
  output := h.output }
theorem below_rel {C : Ctx} (hS : RelS C) {w' : World} (h : Below C.w.heap.size C.w w') : RelS { C with w := w' } :=
  RelS.of (fun k a ho => (hS.good ho).mono (below_ext hS h) rfl (fun hl => by
    obtain ⟨l, hl⟩ := Option.isSome_iff_exists.1 hl
    exact h.block _ (hS.lim_lt ((lim_of ho).trans hl)))) hS.inj
/-- What leaves all that was as it was. -/
theorem APure.below {f : FuncId} {args : List AV} {v : AV} (h : ∀ (C : Ctx) (xs : List Value), RelG C Γ → RelL C args xs → Calls P f xs.toArray C.w (fun e w' => ∃ x, e = .returned x ∧ Below C.w.heap.size C.w w' ∧ ∀ D : Ctx, RelV D v x)) : APure P Γ f args v := by
  intro σ C xs hσ hS hG hL
  refine (h C xs hG hL).mono ?_
  rintro e w' ⟨x, he, hb, hv⟩
  exact ⟨{ C with w := w' }, x, v, he, rfl, below_ext hS hb, below_rel hS hb, hv _, hσ, rfl⟩
theorem APure.quiet {f : FuncId} {args : List AV} {v : AV} (h : ∀ (C : Ctx) (xs : List Value), RelG C Γ → RelL C args xs → ∃ x, Calls P f xs.toArray C.w (fun e w' => e = .returned x ∧ w' = C.w) ∧ ∀ D : Ctx, RelV D v x) : APure P Γ f args v := by
  refine APure.below fun C xs hG hL => ?_
  obtain ⟨x, hc, hv⟩ := h C xs hG hL
  refine hc.mono ?_
  rintro e w' ⟨he, rfl⟩
  exact ⟨x, he, Below.refl _ _, hv⟩
theorem relAt_vals {C : Ctx} {b : Nat} : ∀ {vs : List Value} {off : Nat}, RelAt C (vs.map .val) b off → ∀ (j : Nat) (v : Value), vs[j]? = some v → C.w.cell? ⟨b, off + j, none⟩ = some v
  | [], _, _, _, _, h => by simp at h
  | v :: vs, off, h, 0, u, hj => by
    simp at hj
    subst hj
    obtain ⟨⟨x, h1, _, h2⟩, _⟩ := h
    rw [Nat.add_zero, h1, show x = v from h2]
  | v :: vs, off, h, j + 1, u, hj => by
    have := relAt_vals h.2.2 j u (by simpa using hj)
    rw [show off + (j + 1) = off + 1 + j by omega]
    exact this
/-- A table: what the package variable of this number holds, whole. -/
theorem relG_table {C : Ctx} (hG : RelG C Γ) {k : Nat} {vs : List Value} (h : (k, vs.map AV.val) ∈ Γ) (h2 : 2 ≤ vs.length) : ∃ (T : TypeId) (fr : Nat × Nat), C.w.heap[k]? = some (.cells vs.toArray T fr) := by
  obtain ⟨hr, hw⟩ := hG _ h
  obtain ⟨arr, T, fr, h3, h4⟩ := hw (by simpa using h2)
  refine ⟨T, fr, ?_⟩
  rw [h3]
  congr 2
  apply Array.ext
  · simpa using h4
  · intro j g1 g2
    have := relAt_vals hr j vs[j] (by simp at g2; simp [g2])
    rw [Nat.zero_add, cell_of_row _ _ _ _ _ _ h3, Array.getElem?_eq_getElem g1] at this
    simpa using this
end Go.Proofs.Ev

