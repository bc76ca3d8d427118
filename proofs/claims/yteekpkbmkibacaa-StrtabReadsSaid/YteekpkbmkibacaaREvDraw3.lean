import Derived.Test.YteekpkbmkibacaaREvMore
/-! Drawn regions in which two variables begin to live, in whatever order. -/
namespace Go.Proofs.Ev
set_option linter.unusedSimpArgs false
set_option linter.unusedVariables false
open Go
variable {F : Fr} {P : Program} {Γ : List (Nat × List AV)}

/-- Operations that only look. -/
def plainOp : Op → Bool
  | .move _ | .assign _ | .load _ _ | .fieldAddr _ _ _ | .indexAddr _ _ _ | .binOp _ _ _ _ _ | .unOp _ _ _ | .pick _ _ _ | .field _ _ _ => true
  | _ => false
theorem aLoad_frame {σ : Sto} {T : TypeId} {p v : AV} (τ : Sto) (h : aLoad P σ T p = some v) : aLoad P (σ ++ τ) T p = some v := by
  cases p with
  | ref o off =>
    simp only [aLoad] at h ⊢
    cases ho : σ[o]? with
    | none => simp [ho] at h
    | some a =>
      rw [List.getElem?_append_left (get_lt ho), ho]
      rw [ho] at h
      exact h
  | _ => exact h
theorem map_snd {α β : Type} {q : Option α} {v : α} {s : β} (h : q.map (·, s) = some (v, s)) : q = some v := by
  obtain ⟨u, hu, e⟩ := Option.map_eq_some_iff.1 h
  cases e
  exact hu
theorem aop_frame {md : Bool} {σ : Sto} {env : Env} {op : Op} {v : AV} (hp : plainOp op = true) (τ : Sto) (h : aop P Γ md σ env op = some (v, σ)) : aop P Γ md (σ ++ τ) env op = some (v, σ ++ τ) := by
  cases op <;> simp [plainOp] at hp
  case move => simp only [aop, Option.some.injEq, Prod.mk.injEq, and_true] at h ⊢; exact h
  case assign => simp only [aop, Option.some.injEq, Prod.mk.injEq, and_true] at h ⊢; exact h
  case load T x => simp only [aop] at h ⊢; rw [aLoad_frame τ (map_snd h)]; rfl
  case pick c a b =>
    simp only [aop] at h ⊢
    split at h <;> simp at h ⊢
    exact h
  all_goals
    simp only [aop] at h ⊢
    rw [map_snd h]
    rfl
theorem Q1.frame {md : Bool} {ops : Array Oper} {σ : Sto} {o : Oper} {env : Env} {v : AV} (hp : plainOp o.op = true) (τ : Sto) (h : Q1 P Γ md ops σ o env v) : Q1 P Γ md ops (σ ++ τ) o env v := by
  unfold Q1 at h ⊢
  split at h
  · exact h
  · split at h
    · rename_i ho
      rw [ho] at hp
      simp [plainOp] at hp
    · exact aop_frame hp τ h
  · exact h
theorem Q1.bel {md : Bool} {ops : Array Oper} {σ : Sto} {o : Oper} {env : Env} {v : AV} (hp : plainOp o.op = true) (h : Q1 P Γ md ops σ o env v) {C : Ctx} {a : Act} (hs : Stands F Γ C a env σ) : v.bel σ.length = true ∧ ∃ C' a', Stands F Γ C' a' (aput env o.dst v) σ := by
  unfold Q1 at h
  split at h
  · subst h
    exact ⟨rfl, C, a.put o.dst undef, hs.σ, hs.S, hs.G, aput_rel hs.L (show RelV C (.val undef) undef from rfl), by rw [put_defers]; exact hs.D⟩
  · split at h
    · rename_i ho
      rw [ho] at hp
      simp [plainOp] at hp
    · have hσ := hs.σ
      subst hσ
      obtain ⟨r, y, D, _, _, k1, k2, k3, k4⟩ := aop_ok hs.S hs.G hs.L o h
      refine ⟨by rw [← k1]; exact RelV.bel k4, D, a.put o.dst y, ?_⟩
      have := hs.did k2 k3 k4 o.dst
      rwa [k1] at this
  · exact h.elim
theorem Ch.bel {md : Bool} {ops : Array Oper} {σ : Sto} : ∀ {l : List Oper} {x : Env} {ws : List AV} {y : Env}, (∀ o ∈ l, plainOp o.op = true) → Ch P Γ md ops σ l x ws y → ∀ {C : Ctx} {a : Act}, Stands F Γ C a x σ → ∀ i, i < l.length → (ws.getD i .any).bel σ.length = true
  | [], _, _, _, _, _, _, _, _ => fun i hi => by simp at hi
  | o :: l, x, v :: ws, y, hp, h, C, a, hs => by
    obtain ⟨h1, h2⟩ := h
    obtain ⟨g1, C', a', g2⟩ := h1.bel (hp o List.mem_cons_self) hs
    intro i hi
    cases i with
    | zero => exact g1
    | succ i => exact Ch.bel (fun o' h' => hp o' (List.mem_cons_of_mem _ h')) h2 g2 i (by simpa using hi)
  | _ :: _, _, [], _, _, h, _, _, _ => h.elim
/-- A place of an operation that lets a variable begin, taken by one that does nothing. -/
def noAlloc (o : Oper) : Oper := match o.op with
  | .alloc _ => { o with op := .move (.const undef) }
  | _ => o


theorem ARun.split {md : Bool} {ops : Array Oper} {K : Env → Sto → Prop} {o : Oper} {rest : List Oper} {env : Env} {σ : Sto} (h : ARun P Γ md ops K (o :: rest) env σ) : ARun P Γ md ops (fun env' σ' => ARun P Γ md ops K rest env' σ') [o] env σ := by
  unfold ARun at h ⊢
  split at h
  · exact h
  · split at h
    · split at h
      · obtain ⟨R, h1, h2, h3⟩ := h
        exact ⟨R, h1, h2, fun v σ' hv => h3 v σ' hv⟩
      · obtain ⟨R, h2, h3⟩ := h
        exact ⟨R, h2, fun b σ' hv => h3 b σ' hv⟩
      · exact h.elim
    · split at h
      · exact h
      · exact h.elim
  · exact h.elim
/-- One after the other. -/
theorem ADraw.rest (md : Bool) {ops : Array Oper} {K : Env → Sto → Prop} : ∀ {l : List Oper} {s : Nat} {env : Env} {σ : Sto}, (List.range' s l.length).all (fun i => blockB .any ops i 1) = true → ARun P Γ md ops K l env σ → ADraw F P Γ ops s l env σ K
  | [], s, env, σ, _, h => ADraw.done h
  | o :: l, s, env, σ, hb, h => by
    simp only [List.length_cons, List.range'_succ, List.all_cons, Bool.and_eq_true] at hb
    refine ADraw.one md hb.1 (ARun.mono ?_ h.split)
    intro env' σ' h'
    exact ADraw.rest md hb.2 h'
theorem keepB_sub {l l' : List Oper} {env : Env} {ts : List Nat} (hk : keepB l env ts = true) (hs : ∀ o ∈ l', ∃ o' ∈ l, o.dst = o'.dst) : ∀ o ∈ l', ∀ t, o.dst = some t → t < env.length ∧ t ∈ dstsOf l := by
  intro o ho t ht
  obtain ⟨o', h1, h2⟩ := hs o ho
  exact keepB_dst hk o' h1 t (by rw [← h2]; exact ht)
def storeAt (l : List Oper) (st t1 a1 a2 : Nat) : Bool := match l[st]? with
  | some o => (match o.op with | .store _ (.tmp t) _ => t == t1 | _ => false) && o.guard.isNone && o.dst.isNone && (edges .any o).contains a1 && (edges .any o).contains a2
  | none => false
attribute [go_sem] List.take_succ_cons List.take_zero List.drop_succ_cons List.drop_zero noAlloc
end Go.Proofs.Ev

