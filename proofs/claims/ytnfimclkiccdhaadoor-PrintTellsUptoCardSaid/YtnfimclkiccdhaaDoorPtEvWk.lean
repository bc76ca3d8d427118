import Derived.Test.YtnfimclkiccdhaaDoorPtEvSimp
/-! Forgetting temporaries; loops whose rounds are told by a state. -/
namespace Go.Proofs.Ev
set_option linter.unusedSimpArgs false
set_option linter.unusedVariables false
open Go
variable {F : Fr} {P : Program} {Γ : List (Nat × List AV)}

/-- The second knows no more than the first. -/
def Wk : Env → Env → Prop
  | [], [] => True
  | v :: l, w :: m => (w = .any ∨ w = v) ∧ Wk l m
  | _, _ => False
theorem Wk.rel {C : Ctx} : ∀ {env env' : Env} {xs : List Value}, Wk env env' → RelL C env xs → RelL C env' xs
  | [], [], _, _, h => h
  | v :: l, w :: m, x :: xs, hw, h => by
    refine ⟨?_, Wk.rel hw.2 h.2⟩
    rcases hw.1 with e | e
    · rw [e]; trivial
    · rw [e]; exact h.1
  | _ :: _, _ :: _, [], _, h => h.elim
  | [], _ :: _, _, hw, _ => hw.elim
  | _ :: _, [], _, hw, _ => hw.elim
theorem Stands.weaken {C : Ctx} {a : Act} {env env' : Env} {σ : Sto} (h : Stands F Γ C a env σ) (hw : Wk env env') : Stands F Γ C a env' σ := ⟨h.σ, h.S, h.G, hw.rel h.L, h.D⟩
theorem AW.weaken {c : Code} {env env' : Env} {σ : Sto} {Q : Exit → Env → Sto → Prop} (hw : Wk env env') (h : AW F P Γ c env' σ Q) : AW F P Γ c env σ Q := fun C a hs => h C a (hs.weaken hw)
theorem AW.loop_wk {α : Type} {c : Code} {env : Env} {σ : Sto} {Q : Exit → Env → Sto → Prop} (E : α → Env) (S : α → Sto) (μ : α → Nat) (inv : α → Prop) (x0 : α)
    (h0 : inv x0 ∧ Wk env (E x0) ∧ S x0 = σ)
    (h : ∀ x, inv x → AW F P Γ c (E x) (S x) (fun e env' σ' => match e with
      | .normal => ∃ y, μ y < μ x ∧ inv y ∧ Wk env' (E y) ∧ σ' = S y
      | e => Q e env' σ')) : AW F P Γ (.loop c) env σ Q := by
  obtain ⟨h1, h2, h3⟩ := h0
  refine AW.weaken h2 ?_
  intro C a hs
  let J : Nat → Act → World → Prop := fun n a w => ∃ D x, μ x = n ∧ D.w = w ∧ Ext C D ∧ inv x ∧ Stands F Γ D a (E x) (S x)
  refine wpIn_loop_ghost J (μ x0) ⟨C, x0, rfl, rfl, Ext.refl _, h1, by rw [h3]; exact hs⟩ ?_
  rintro n a w ⟨D, x, rfl, rfl, k2, k3, k4⟩
  refine wpIn_mono (h x k3 D a k4) fun e a' w' hp => ?_
  obtain ⟨E', env', rfl, l2, l3, l4, l5, l6, l7⟩ := hp
  cases e with
  | normal =>
    obtain ⟨y, m1, m2, m3, m4⟩ := l7
    exact ⟨μ y, m1, E', y, rfl, rfl, k2.trans l2, m2, ⟨m4, l3, l4, m3.rel l5, l6⟩⟩
  | _ => exact ⟨E', env', rfl, k2.trans l2, l3, l4, l5, l6, l7⟩
/-- A region first. -/
theorem AW.reg (md : Bool) {id : Nat} {l : List Oper} {y : Code} {env : Env} {σ : Sto} {Q : Exit → Env → Sto → Prop}
    (h : ∀ K : Env → Sto → Prop, (∀ env σ, AW F P Γ y env σ Q → K env σ) → ARun P Γ md l.toArray K l env σ) : AW F P Γ (.seq (.region id l.toArray false) y) env σ Q :=
  AW.seq_k fun K hK => AW.run md (h K hK)

/-- A function that only reckons where a store lives. -/
def APureOn (P : Program) (Γ : List (Nat × List AV)) (f : FuncId) (args : List AV) (σ : Sto) (v : AV) : Prop := ∀ τ, ACalls P Γ f args (σ ++ τ) (fun v' σ' => σ' = σ ++ τ ∧ v' = v)
theorem APure.on {f : FuncId} {args : List AV} {v : AV} (h : APure P Γ f args v) (σ : Sto) : APureOn P Γ f args σ v := fun τ => h (σ ++ τ)
theorem APureOn.more {f : FuncId} {args : List AV} {σ : Sto} {v : AV} (h : APureOn P Γ f args σ v) (τ : Sto) : APureOn P Γ f args (σ ++ τ) v := fun τ' => by
  have := h (τ ++ τ')
  rw [List.append_assoc]
  exact this
theorem APureOn.here {f : FuncId} {args : List AV} {σ : Sto} {v : AV} (h : APureOn P Γ f args σ v) : ACalls P Γ f args σ (fun v' σ' => σ' = σ ∧ v' = v) := by
  have := h []
  rwa [List.append_nil] at this
theorem APureOn.of {f : FuncId} {fn : Func} {c : Code} {args : List AV} {σ : Sto} {v : AV} (hf : P.funcs[f]? = some fn) (hb : fn.body = some c)
    (h : ∀ τ, AW .plain P Γ c (args ++ List.replicate (fn.ntmps - args.length) .any) (σ ++ τ) (fun e env σ' => (e = .normal ∨ e = .ret) ∧ ∃ v', aReturn P fn σ' env = some v' ∧ σ'.take (σ ++ τ).length = σ ++ τ ∧ Frz (σ ++ τ).length σ' v' v)) : APureOn P Γ f args σ v := by
  intro τ
  refine ACalls.pure (R := fun v' σ' => σ'.take (σ ++ τ).length = σ ++ τ ∧ Frz (σ ++ τ).length σ' v' v) (ACalls.of hf hb ?_) ?_
  · refine (h τ).mono fun e env σ' hq => ⟨hq.1, ?_⟩
    obtain ⟨_, v', h1, h2, h3⟩ := hq
    exact ⟨v', h1, h2, h3⟩
  · rintro v' σ' ⟨h1, h2⟩
    exact ⟨h1, v, h2, rfl⟩
theorem beq_tt (b : Bool) : (b == true) = b := by cases b <;> rfl
theorem beq_ff (b : Bool) : (b == false) = !b := by cases b <;> rfl
attribute [go_sem] List.getElem?_cons_succ List.getElem?_cons_zero beq_tt beq_ff Bool.not_false Bool.not_true
end Go.Proofs.Ev

