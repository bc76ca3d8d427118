import Derived.Test.YtnfimclkiccdhaaDoorPtEvPure
/-! Rules in the form in which proofs use them. -/
namespace Go.Proofs.Ev
set_option linter.unusedSimpArgs false
set_option linter.unusedVariables false
open Go
variable {F : Fr} {P : Program} {Γ : List (Nat × List AV)}

theorem AW.seq_k {x y : Code} {env : Env} {σ : Sto} {Q : Exit → Env → Sto → Prop} (h : ∀ K : Env → Sto → Prop, (∀ env σ, AW F P Γ y env σ Q → K env σ) → AW F P Γ x env σ (fun e env' σ' => match e with | .normal => K env' σ' | e => Q e env' σ')) : AW F P Γ (.seq x y) env σ Q :=
  AW.seq (h _ fun _ _ h => h)




/-- A function that only reckons. -/
def APure (P : Program) (Γ : List (Nat × List AV)) (f : FuncId) (args : List AV) (v : AV) : Prop := ∀ σ, ACalls P Γ f args σ (fun v' σ' => σ' = σ ∧ v' = v)
theorem APure.of {f : FuncId} {fn : Func} {c : Code} {args : List AV} {v : AV} (hf : P.funcs[f]? = some fn) (hb : fn.body = some c)
    (h : ∀ σ, AW .plain P Γ c (args ++ List.replicate (fn.ntmps - args.length) .any) σ (fun e env σ' => (e = .normal ∨ e = .ret) ∧ ∃ v', aReturn P fn σ' env = some v' ∧ σ'.take σ.length = σ ∧ Frz σ.length σ' v' v)) : APure P Γ f args v := by
  intro σ
  refine ACalls.pure (R := fun v' σ' => σ'.take σ.length = σ ∧ Frz σ.length σ' v' v) (ACalls.of hf hb ?_) ?_
  · refine (h σ).mono fun e env σ' hq => ⟨hq.1, ?_⟩
    obtain ⟨_, v', h1, h2, h3⟩ := hq
    exact ⟨v', h1, h2, h3⟩
  · rintro v' σ' ⟨h1, h2⟩
    exact ⟨h1, v, h2, rfl⟩
end Go.Proofs.Ev

