import Derived.Test.YtnfimclkiccdhaaDoorPtEvList
/-! A region, cut into parts: behind each only one temporary is told. -/
namespace Go.Proofs.Ev
set_option linter.unusedSimpArgs false
set_option linter.unusedVariables false
open Go
variable {F : Fr} {P : Program} {Γ : List (Nat × List AV)}
theorem ARun.ops2 {md : Bool} {ops : Array Oper} {K K' : Env → Sto → Prop} {l2 : List Oper} (hk : ∀ env σ, K' env σ → AOps F P Γ ops l2 env σ K) : ∀ {l : List Oper} {env : Env} {σ : Sto}, ARun P Γ md ops K' l env σ → AOps F P Γ ops (l ++ l2) env σ K
  | [], _, _, h => hk _ _ h
  | o :: rest, env, σ, h => by
    unfold ARun at h
    split at h
    · rename_i hw
      exact AOps.skip hw (ARun.ops2 hk h)
    · rename_i hw
      split at h
      · rename_i x as ts hop
        split at h
        · rename_i f caps hx
          obtain ⟨R, hen, hc, hk'⟩ := h
          exact AOps.call hw hop hx rfl hen hc fun v σ' hr => ARun.ops2 hk (hk' v σ' hr)
        · rename_i l hx
          obtain ⟨R, hc, hk'⟩ := h
          exact AOps.yield hw hop hx hc fun b σ' hr => ARun.ops2 hk (hk' b σ' hr)
        · exact h.elim
      · split at h
        · rename_i v σ' hop
          exact AOps.op hw hop (ARun.ops2 hk h)
        · exact h.elim
    · exact h.elim
theorem AOps.weaken {ops : Array Oper} {l : List Oper} {env E : Env} {σ : Sto} {K : Env → Sto → Prop} (hw : Wk env E) (h : AOps F P Γ ops l E σ K) : AOps F P Γ ops l env σ K := fun C a Q hs hq => h C a Q (hs.weaken hw) hq
/-- A part of n operations: t is worth v behind it. -/
theorem AOps.cut (md : Bool) (n t : Nat) (v : AV) {ops : Array Oper} {l : List Oper} {env : Env} {σ : Sto} {K : Env → Sto → Prop} (hk : keepB (l.take n) env [t] = true)
    (h : ARunF P Γ md ops (fun fe σ' => fe t = v ∧ σ' = σ) (l.take n) (fun s => env.getD s .any) σ) (k : AOps F P Γ ops (l.drop n) (env.set t v) σ K) : AOps F P Γ ops l env σ K := by
  have h1 := ARunF.run (keepB_dst hk) (Agr.start env (dstsOf (l.take n))) h
  have h2 : AOps F P Γ ops (l.take n ++ l.drop n) env σ K := by
    refine ARun.ops2 ?_ h1
    rintro env' σ' ⟨fe, ⟨rfl, rfl⟩, h2⟩
    exact AOps.weaken (h2.wk hk) k
  rwa [List.take_append_drop] at h2
theorem AOps.mono {ops : Array Oper} {l : List Oper} {env : Env} {σ : Sto} {K K' : Env → Sto → Prop} (h : AOps F P Γ ops l env σ K) (hk : ∀ env σ, K env σ → K' env σ) : AOps F P Γ ops l env σ K' := by
  intro C a Q hs hq
  refine h C a Q hs fun e a w hp => hq e a w (hp.mono ?_)
  rintro e env σ ⟨h1, h2⟩
  exact ⟨h1, hk _ _ h2⟩
theorem AW.regcuts {id : Nat} {l : List Oper} {y : Code} {env : Env} {σ : Sto} {Q : Exit → Env → Sto → Prop} (h : ∀ K : Env → Sto → Prop, (∀ E S, AW F P Γ y E S Q → K E S) → AOps F P Γ l.toArray l env σ K) : AW F P Γ (.seq (.region id l.toArray false) y) env σ Q := by
  refine AW.seq ?_
  refine (AW.region (Q := fun e env' σ' => e = .normal ∧ AW F P Γ y env' σ' Q) ?_).mono ?_
  · exact (h (fun E S => AW F P Γ y E S Q) fun _ _ h => h).mono fun _ _ h => ⟨rfl, h⟩
  · rintro e env' σ' ⟨rfl, h1⟩
    exact h1
end Go.Proofs.Ev

