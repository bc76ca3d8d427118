import Derived.Test.YtipakejbdpbedaaDoorLtEvTac
import Derived.Below
/-! A contract of the kit's shelf, told abstractly. -/
namespace Go.Proofs.Ev
set_option linter.unusedSimpArgs false
set_option linter.unusedVariables false
open Go Go.RowKit
variable {P : Program} {Γ : List (Nat × List AV)}
theorem below_ext {C : Ctx} (hS : RelS C) {w' : World} (h : Below C.w.heap.size C.w w') : Ext C { C with w := w' } where
  dfr := fun k hk => ⟨hk, h.block _ (hS.lim_lt ((lim_of hk).trans rfl))⟩
  fresh := fun _ h => .inl h
  size := h.size
  ids := fun _ a h1 h2 => ⟨rfl, a, h1, h2⟩
  caps := fun _ n _ h => ⟨n, h, Nat.le_refl _, fun _ => rfl⟩
  fixC := fun b off hf => ⟨cell_of_heap (h.block b hf.1), Nat.lt_of_lt_of_le hf.1 h.size, hf.2⟩
  fixB := fun b hf => ⟨h.block b hf.1, Nat.lt_of_lt_of_le hf.1 h.size, hf.2⟩
  shape := fun b arr T fr hb => ⟨arr, (h.block b (lt_of_heap hb)).trans hb, rfl⟩
  os := h.os
  tape := h.tape
  output := h.output
theorem below_rel {C : Ctx} (hS : RelS C) {w' : World} (h : Below C.w.heap.size C.w w') : RelS { C with w := w' } :=
  RelS.of (fun k a ho => (hS.good ho).mono (below_ext hS h) rfl (fun hl => by
    obtain ⟨l, hl⟩ := Option.isSome_iff_exists.1 hl
    exact h.block _ (hS.lim_lt ((lim_of ho).trans hl)))) hS.inj
/-- What leaves all that was as it was. -/
theorem APure.below {f : FuncId} {args : List AV} {v : AV} (h : ∀ (C : Ctx) (xs : List Value), RelG C Γ → RelL C args xs → Calls P f xs.toArray C.w (fun e w' => ∃ x, e = .returned x ∧ Below C.w.heap.size C.w w' ∧ ∀ D : Ctx, RelV D v x)) : APure P Γ f args v := by
  intro σ C xs hσ hS hG hL
  refine (h C xs hG hL).mono ?_
  rintro e w' ⟨x, he, hb, hv⟩
  exact ⟨{ C with w := w' }, x, v, he, rfl, below_ext hS hb, below_rel hS hb, hv _, hσ, rfl⟩
theorem APure.quiet {f : FuncId} {args : List AV} {v : AV} (h : ∀ (C : Ctx) (xs : List Value), RelG C Γ → RelL C args xs → ∃ x, Calls P f xs.toArray C.w (fun e w' => e = .returned x ∧ w' = C.w) ∧ ∀ D : Ctx, RelV D v x) : APure P Γ f args v := by
  refine APure.below fun C xs hG hL => ?_
  obtain ⟨x, hc, hv⟩ := h C xs hG hL
  refine hc.mono ?_
  rintro e w' ⟨he, rfl⟩
  exact ⟨x, he, Below.refl _ _, hv⟩
/-- What a package variable of one cell holds. -/
theorem relG_cell {C : Ctx} (hG : RelG C Γ) {k : Nat} {c : AV} (h : (k, [c]) ∈ Γ) : ∃ v, C.w.cell? ⟨k, 0, none⟩ = some v ∧ RelV C c v := by
  have := hG _ h
  simp only [RelAt] at this
  obtain ⟨⟨v, h1, _, h2⟩, _⟩ := this
  exact ⟨v, h1, h2⟩
end Go.Proofs.Ev

