import Derived.Test.YtnfimclkiccdhaaDoorPtEvDraw3
/-! Drawn regions that write: what writes in its order, what only looks around it. -/
namespace Go.Proofs.Ev
set_option linter.unusedSimpArgs false
set_option linter.unusedVariables false
open Go
variable {F : Fr} {P : Program} {Γ : List (Nat × List AV)}

/-- Operations that turn nothing. -/
def quietOp : Op → Bool
  | .move _ | .assign _ | .pick _ _ _ | .build _ _ | .load _ _ | .nilCheck _ | .binOp _ _ _ _ _ | .unOp _ _ _ | .fieldAddr _ _ _ | .field _ _ _ | .indexAddr _ _ _ | .index _ _ _ | .extract _ _ | .lookup _ _ _ _ | .convert _ _ _ | .slice _ _ _ _ none => true
  | .buildSlice _ n _ => n != 0
  | .call { callee := .builtin .len, args := _, argTypes := _ } => true
  | _ => false
theorem map_st {α : Type} {q : Option α} {σ σ' : Sto} {v : α} (h : q.map (·, σ) = some (v, σ')) : σ' = σ := by
  obtain ⟨u, _, e⟩ := Option.map_eq_some_iff.1 h
  cases e
  rfl
theorem quiet_st {σ σ' : Sto} {env : Env} {op : Op} {v : AV} (hp : quietOp op = true) (h : aop P Γ false σ env op = some (v, σ')) : σ' = σ := by
  cases op <;> try (simp [quietOp] at hp; done)
  case move => simp only [aop, Option.some.injEq, Prod.mk.injEq] at h; exact h.2.symm
  case assign => simp only [aop, Option.some.injEq, Prod.mk.injEq] at h; exact h.2.symm
  case pick c a b =>
    simp only [aop] at h
    split at h <;> simp at h
    exact h.2.symm
  case nilCheck x =>
    simp only [aop] at h
    split at h <;> simp at h <;> exact h.2.symm
  case buildSlice T n parts =>
    simp only [quietOp, bne_iff_ne, ne_eq] at hp
    simp only [aop, aRow, Bool.false_eq_true, if_false, hp] at h
    exact map_st h
  case slice T x lo hi mx =>
    cases mx with
    | none =>
      simp only [aop] at h
      exact map_st h
    | some _ => simp [quietOp] at hp
  case convert s d x =>
    simp only [aop, aConv] at h
    split at h
    · cases h; rfl
    · split at h <;> exact map_st h
  case call c =>
    obtain ⟨callee, args, ts⟩ := c
    cases callee <;> try (simp [quietOp] at hp; done)
    rename_i b
    cases b <;> try (simp [quietOp] at hp; done)
    simp only [aop, aBuiltin] at h
    split at h <;> try (simp at h; done)
    all_goals first | exact map_st h | (simp_all; done)
  all_goals
    simp only [aop] at h
    exact map_st h
theorem want_none {ops : Array Oper} {x : Env} {o : Oper} (h : o.guard = none) : aWanted ops x o = some true := by simp [aWanted, h]

end Go.Proofs.Ev

