import Derived.Test.YteekpkbmkibacaaDoorLEvDraw3
/-! Drawn regions that write: what writes in its order, what only looks around it. -/
namespace Go.Proofs.Ev
set_option linter.unusedSimpArgs false
set_option linter.unusedVariables false
open Go
variable {F : Fr} {P : Program} {Γ : List (Nat × List AV)}

/-- Operations that turn nothing. -/
def quietOp : Op → Bool
  | .move _ | .assign _ | .pick _ _ _ | .build _ _ | .load _ _ | .nilCheck _ | .binOp _ _ _ _ _ | .unOp _ _ _ | .fieldAddr _ _ _ | .field _ _ _ | .indexAddr _ _ _ | .index _ _ _ | .extract _ _ | .lookup _ _ _ _ | .convert _ _ _ => true
  | .buildSlice _ n _ => n != 0
  | .call { callee := .builtin .len, args := _, argTypes := _ } => true
  | _ => false
def callVal : Op → Bool
  | .call { callee := .value _, args := _, argTypes := _ } => true
  | _ => false
theorem map_st {α : Type} {q : Option α} {σ σ' : Sto} {v : α} (h : q.map (·, σ) = some (v, σ')) : σ' = σ := by
  obtain ⟨u, _, e⟩ := Option.map_eq_some_iff.1 h
  cases e
  rfl
theorem quiet_st {σ σ' : Sto} {env : Env} {op : Op} {v : AV} (hp : quietOp op = true) (h : aop P Γ false σ env op = some (v, σ')) : σ' = σ := by
  cases op <;> try (simp [quietOp] at hp; done)
  case move => simp only [aop, Option.some.injEq, Prod.mk.injEq] at h; exact h.2.symm
  case assign => simp only [aop, Option.some.injEq, Prod.mk.injEq] at h; exact h.2.symm
  case pick c a b =>
    simp only [aop] at h
    split at h <;> simp at h
    exact h.2.symm
  case nilCheck x =>
    simp only [aop] at h
    split at h <;> simp at h <;> exact h.2.symm
  case buildSlice T n parts =>
    simp only [quietOp, bne_iff_ne, ne_eq] at hp
    simp only [aop, aRow, Bool.false_eq_true, if_false, hp] at h
    exact map_st h
  case convert s d x =>
    simp only [aop, aConv] at h
    split at h
    · cases h; rfl
    · split at h <;> exact map_st h
  case call c =>
    obtain ⟨callee, args, ts⟩ := c
    cases callee <;> try (simp [quietOp] at hp; done)
    rename_i b
    cases b <;> try (simp [quietOp] at hp; done)
    simp only [aop, aBuiltin] at h
    split at h <;> try (simp at h; done)
    all_goals first | exact map_st h | (simp_all; done)
  all_goals
    simp only [aop] at h
    exact map_st h
/-- What lives still lives as it lived, but for rights. -/
def Saved (σ σ' : Sto) : Prop := ∀ (o : Nat) (a : AO), σ[o]? = some a → a.isCap = false → σ'[o]? = some a
/-- A run of operations, step by step. -/
inductive Tr (P : Program) (Γ : List (Nat × List AV)) (ops : Array Oper) : List Oper → Env → Sto → List AV → List Sto → Env → Sto → Prop
  | nil {x : Env} {σ : Sto} : Tr P Γ ops [] x σ [] [] x σ
  | cons {o : Oper} {l : List Oper} {x y : Env} {σ σ' τ : Sto} {v : AV} {ws : List AV} {ss : List Sto} : aop P Γ false σ x o.op = some (v, σ') → Tr P Γ ops l (aput x o.dst v) σ' ws ss y τ → Tr P Γ ops (o :: l) x σ (v :: ws) (σ :: ss) y τ
theorem want_none {ops : Array Oper} {x : Env} {o : Oper} (h : o.guard = none) : aWanted ops x o = some true := by simp [aWanted, h]
theorem Tr.of {ops : Array Oper} {K : Env → Sto → Prop} : ∀ {l : List Oper} {x : Env} {σ : Sto}, (∀ o ∈ l, o.guard = none ∧ callVal o.op = false) → ARun P Γ false ops K l x σ → ∃ ws ss y τ, Tr P Γ ops l x σ ws ss y τ ∧ K y τ
  | [], x, σ, _, h => ⟨[], [], x, σ, .nil, h⟩
  | o :: l, x, σ, hl, h => by
    obtain ⟨h1, h2⟩ := hl o List.mem_cons_self
    unfold ARun at h
    rw [want_none h1] at h
    simp only at h
    split at h
    · rename_i ho
      rw [ho] at h2
      simp [callVal] at h2
    · split at h
      · rename_i v σ' ha
        obtain ⟨ws, ss, y, τ, k1, k2⟩ := Tr.of (fun o' h' => hl o' (List.mem_cons_of_mem _ h')) h
        exact ⟨v :: ws, σ :: ss, y, τ, .cons ha k1, k2⟩
      · exact h.elim
/-- What is known at each place. -/
theorem Tr.at {ops : Array Oper} {n : Nat} (hD : ∀ i j, i < n → j < n → j ≠ i → dstOf ops j = none ∨ dstOf ops j ≠ dstOf ops i) {vs : Nat → AV} {env : Env} {l : List Oper} {x y : Env} {σ τ : Sto} {ws : List AV} {ss : List Sto} (h : Tr P Γ ops l x σ ws ss y τ) :
    ∀ (k : Nat), k + l.length = n → (∀ j, j < l.length → ops[k + j]? = l[j]?) → (∀ j, j < l.length → vs (k + j) = ws.getD j .any) → x = envL ops vs (fun j => decide (j < k)) (List.range n) env →
    (∀ i o, k ≤ i → i < n → ops[i]? = some o → ∃ s s', (ss ++ [τ])[i - k]? = some s ∧ (ss ++ [τ])[i - k + 1]? = some s' ∧ aop P Γ false s (envL ops vs (fun j => decide (j < i)) (List.range n) env) o.op = some (vs i, s')) ∧ y = envL ops vs (fun j => decide (j < n)) (List.range n) env ∧ (ss ++ [τ])[0]? = some σ := by
  induction h with
  | nil =>
    intro k hk _ _ hx
    refine ⟨fun i o h1 h2 => by simp at hk; omega, ?_, rfl⟩
    simp only [List.length_nil, Nat.add_zero] at hk
    rw [hx, hk]
  | @cons o l x y σ σ' τ v ws ss ha _ ih =>
    intro k hk hl hv hx
    simp only [List.length_cons] at hk hl hv
    have ho : ops[k]? = some o := by simpa using hl 0 (by omega)
    have hvk : vs k = v := by simpa using hv 0 (by omega)
    have hdk : dstOf ops k = o.dst := by simp [dstOf, ho]
    obtain ⟨r1, r2, r3⟩ := ih (k + 1) (by omega)
      (fun j hj => by have := hl (j + 1) (by omega); simpa [Nat.add_assoc, Nat.add_comm 1 j] using this)
      (fun j hj => by have := hv (j + 1) (by omega); simpa [Nat.add_assoc, Nat.add_comm 1 j] using this)
      (by
        rw [hx, ← hvk, ← hdk]
        refine (envL_set (L := fun j => decide (j < k)) (L' := fun j => decide (j < k + 1)) (by simp) (by simp) _ _ (List.mem_range.2 (by omega)) List.nodup_range (fun j _ hne => ?_) (fun j hj hne => hD k j (by omega) (List.mem_range.1 hj) hne)).symm
        have : (j < k + 1) = (j < k) := by
          apply propext
          constructor <;> intro _ <;> omega
        simp [this])
    refine ⟨fun i o' g1 g2 g3 => ?_, r2, rfl⟩
    rcases Nat.eq_or_lt_of_le g1 with rfl | g1
    · rw [ho] at g3
      cases g3
      refine ⟨σ, σ', by simp, by simpa using r3, ?_⟩
      rw [← hx, hvk]
      exact ha
    · obtain ⟨s, s', q1, q2, q3⟩ := r1 i o' g1 g2 g3
      refine ⟨s, s', ?_, ?_, q3⟩
      · rw [show i - k = (i - (k + 1)) + 1 by omega]
        simpa using q1
      · rw [show i - k + 1 = (i - (k + 1) + 1) + 1 by omega]
        simpa using q2

theorem Saved.refl (σ : Sto) : Saved σ σ := fun _ _ h _ => h
end Go.Proofs.Ev

