import Derived.Test.YteekpkbmkibacaaDoorEvPure
/-! Rules in the form in which proofs use them. -/
namespace Go.Proofs.Ev
set_option linter.unusedSimpArgs false
set_option linter.unusedVariables false
open Go
variable {F : Fr} {P : Program} {Γ : List (Nat × List AV)}

theorem AW.seq_k {x y : Code} {env : Env} {σ : Sto} {Q : Exit → Env → Sto → Prop} (h : ∀ K : Env → Sto → Prop, (∀ env σ, AW F P Γ y env σ Q → K env σ) → AW F P Γ x env σ (fun e env' σ' => match e with | .normal => K env' σ' | e => Q e env' σ')) : AW F P Γ (.seq x y) env σ Q :=
  AW.seq (h _ fun _ _ h => h)

def mask (ts : List Nat) (env : Env) : Env := go 0 env
where
  go : Nat → Env → Env
    | _, [] => []
    | i, v :: l => (if ts.contains i then v else .any) :: go (i + 1) l
theorem mask_rel {C : Ctx} {ts : List Nat} {env : Env} {xs : List Value} (h : RelL C env xs) : RelL C (mask ts env) xs := by
  unfold mask
  generalize 0 = i
  induction env generalizing i xs with
  | nil => exact h
  | cons v l ih =>
    cases xs with
    | nil => exact h.elim
    | cons x xs =>
      refine ⟨?_, ih h.2 (i + 1)⟩
      split
      · exact h.1
      · trivial
theorem Stands.forget {C : Ctx} {a : Act} {env : Env} {σ : Sto} (h : Stands F Γ C a env σ) (ts : List Nat) : Stands F Γ C a (mask ts env) σ := ⟨h.σ, h.S, h.G, mask_rel h.L, h.D⟩
/-- Temporaries that are read no more are forgotten. -/
theorem AW.forget {c : Code} {env : Env} {σ : Sto} {Q : Exit → Env → Sto → Prop} (ts : List Nat) (h : AW F P Γ c (mask ts env) σ Q) : AW F P Γ c env σ Q := fun C a hs => h C a (hs.forget ts)
theorem Post.forget {C : Ctx} {Q Q' : Exit → Env → Sto → Prop} {e : Exit} {a : Act} {w : World} (ts : List Nat) (hp : Post F Γ C Q e a w) (h : ∀ env σ, Q e env σ → Q' e (mask ts env) σ) : Post F Γ C Q' e a w := by
  obtain ⟨E, env, h1, h2, h3, h4, h5, h6, h7⟩ := hp
  exact ⟨E, mask ts env, h1, h2, h3, h4, mask_rel h5, h6, h _ _ h7⟩

def upds (env : Env) : List (Nat × AV) → Env
  | [] => env
  | (i, v) :: l => upds (env.set i v) l

/-- A loop whose rounds are told by a state. -/
theorem AW.loop_st {α : Type} {c : Code} {env : Env} {σ : Sto} {Q : Exit → Env → Sto → Prop} (ts : List Nat) (upd : α → List (Nat × AV)) (sto : α → Sto) (μ : α → Nat) (inv : α → Prop) (x0 : α)
    (h0 : inv x0 ∧ upds (mask ts env) (upd x0) = mask ts env ∧ sto x0 = σ)
    (h : ∀ x, inv x → AW F P Γ c (upds (mask ts env) (upd x)) (sto x) (fun e env' σ' => match e with
      | .normal => ∃ y, μ y < μ x ∧ inv y ∧ mask ts env' = upds (mask ts env) (upd y) ∧ σ' = sto y
      | e => Q e env' σ')) : AW F P Γ (.loop c) env σ Q := by
  refine AW.forget ts ?_
  obtain ⟨h1, h2, h3⟩ := h0
  intro C a hs
  let J : Nat → Act → World → Prop := fun n a w => ∃ D x, μ x = n ∧ D.w = w ∧ Ext C D ∧ inv x ∧ Stands F Γ D a (upds (mask ts env) (upd x)) (sto x)
  refine wpIn_loop_ghost J (μ x0) ⟨C, x0, rfl, rfl, Ext.refl _, h1, by rw [h2, h3]; exact hs⟩ ?_
  rintro n a w ⟨D, x, rfl, rfl, k2, k3, k4⟩
  refine wpIn_mono (h x k3 D a k4) fun e a' w' hp => ?_
  obtain ⟨E, env', rfl, l2, l3, l4, l5, l6, l7⟩ := hp
  cases e with
  | normal =>
    obtain ⟨y, m1, m2, m3, m4⟩ := l7
    exact ⟨μ y, m1, E, y, rfl, rfl, k2.trans l2, m2, ⟨m4, l3, l4, by rw [← m3]; exact mask_rel l5, l6⟩⟩
  | _ => exact ⟨E, env', rfl, k2.trans l2, l3, l4, l5, l6, l7⟩

/-- A function that only reckons. -/
def APure (P : Program) (Γ : List (Nat × List AV)) (f : FuncId) (args : List AV) (v : AV) : Prop := ∀ σ, ACalls P Γ f args σ (fun v' σ' => σ' = σ ∧ v' = v)
theorem APure.of {f : FuncId} {fn : Func} {c : Code} {args : List AV} {v : AV} (hf : P.funcs[f]? = some fn) (hb : fn.body = some c)
    (h : ∀ σ, AW .plain P Γ c (args ++ List.replicate (fn.ntmps - args.length) .any) σ (fun e env σ' => (e = .normal ∨ e = .ret) ∧ ∃ v', aReturn P fn σ' env = some v' ∧ σ'.take σ.length = σ ∧ Frz σ.length σ' v' v)) : APure P Γ f args v := by
  intro σ
  refine ACalls.pure (R := fun v' σ' => σ'.take σ.length = σ ∧ Frz σ.length σ' v' v) (ACalls.of hf hb ?_) ?_
  · refine (h σ).mono fun e env σ' hq => ⟨hq.1, ?_⟩
    obtain ⟨_, v', h1, h2, h3⟩ := hq
    exact ⟨v', h1, h2, h3⟩
  · rintro v' σ' ⟨h1, h2⟩
    exact ⟨h1, v, h2, rfl⟩
/-- A call of a function that only reckons. -/
theorem ARun_pure {md : Bool} {ops : Array Oper} {K : Env → Sto → Prop} {o : Oper} {rest : List Oper} {env : Env} {σ : Sto} {f : FuncId} {args : List AV} {v : AV} (hen : Enters P f) (hc : APure P Γ f args v) (h : ARun P Γ md ops K rest (aput env o.dst v) σ) :
    ∃ R, Enters P f ∧ ACalls P Γ f args σ R ∧ ∀ v σ', R v σ' → ARun P Γ md ops K rest (aput env o.dst v) σ' :=
  ⟨_, hen, hc σ, fun _ _ ⟨h1, h2⟩ => by rw [h1, h2]; exact h⟩
end Go.Proofs.Ev
