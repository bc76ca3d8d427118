import Derived.Test.YtipakejbdpbedaaDoorLtEvLateR
/-! Code in two parts, with what lies between told; labels. -/
namespace Go.Proofs.Ev
set_option linter.unusedSimpArgs false
set_option linter.unusedVariables false
open Go
variable {F : Fr} {P : Program} {Γ : List (Nat × List AV)}
theorem AW.label {l : Nat} {env : Env} {σ : Sto} {Q : Exit → Env → Sto → Prop} (h : Q .normal env σ) : AW F P Γ (.label l) env σ Q := fun _ _ hs => wpIn_label (hs.post h)
section
variable {b : Frame} {a : Act} {k : List Item} {cs : List Frame} {w : World}
theorem stepR_scope {c : Code} : step P (lone (b.atR a (.code (.scope c) :: k)) cs w) = .next (lone (b.atR a (.code c :: .inScope c :: k)) cs w) :=
  step_lone_go (by simp [stepG, stepG.exec, Frame.atR])
theorem stepR_inScope {c : Code} : step P (lone (b.atR a (.inScope c :: k)) cs w) = .next (lone (b.atR a k) cs w) :=
  step_lone_go (by simp [stepG, stepG.exec, Frame.atR])
end
theorem wpIn_scope {F : Fence} {n : Nat} {Q : Exit → Act → World → Prop} {a : Act} {w : World} {c : Code} (h : c.wpIn F n P (fun e a w => match e with | .goto _ => False | e => Q e a w) a w) : (Code.scope c).wpIn F n P Q a w := by
  intro b k cs hro hb hr
  have h0 : (lone (b.atR a (.code (.scope c) :: k)) cs w).fenced P F := fenced_calm hb hr rfl
  obtain ⟨e, a₁, w₁, hq, harr⟩ := h b (.inScope c :: k) cs hro hb hr
  cases e with
  | normal => exact ⟨.normal, a₁, w₁, hq, .head h0 stepR_scope (StepsIn.trans harr (.one (fenced_calm hb hr rfl) stepR_inScope))⟩
  | exit id => exact ⟨_, a₁, w₁, hq, .of_steps (.one h0 stepR_scope) ⟨fun k' hk => harr.1 k' hk, fun hr hk => harr.2 hr hk⟩⟩
  | goto l => exact hq.elim
  | ret => exact ⟨_, a₁, w₁, hq, .of_steps (.one h0 stepR_scope) harr⟩
  | panic ch => exact ⟨_, a₁, w₁, hq, .of_steps (.one h0 stepR_scope) harr⟩
  | outgrown => exact ⟨_, a₁, w₁, hq, .of_steps (.one h0 stepR_scope) harr⟩
theorem AW.scope {c : Code} {env : Env} {σ : Sto} {Q : Exit → Env → Sto → Prop} (h : AW F P Γ c env σ (fun e env σ => match e with | .goto _ => False | e => Q e env σ)) : AW F P Γ (.scope c) env σ Q := by
  intro C a hs
  refine wpIn_scope (wpIn_mono (h C a hs) ?_)
  rintro e a w ⟨D, env, k1, k2, k3, k4, k5, k6, k7⟩
  cases e with
  | goto l => exact k7.elim
  | _ => exact ⟨D, env, k1, k2, k3, k4, k5, k6, k7⟩
end Go.Proofs.Ev

