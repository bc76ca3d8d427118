import Derived.Test.YtnfimclkiccdhaaDoorPtEvMore
/-! Drawn regions in which two variables begin to live, in whatever order. -/
namespace Go.Proofs.Ev
set_option linter.unusedSimpArgs false
set_option linter.unusedVariables false
open Go
variable {F : Fr} {P : Program} {Γ : List (Nat × List AV)}

/-- A place of an operation that lets a variable begin, taken by one that does nothing. -/
def noAlloc (o : Oper) : Oper := match o.op with
  | .alloc _ => { o with op := .move (.const undef) }
  | _ => o


theorem ARun.split {md : Bool} {ops : Array Oper} {K : Env → Sto → Prop} {o : Oper} {rest : List Oper} {env : Env} {σ : Sto} (h : ARun P Γ md ops K (o :: rest) env σ) : ARun P Γ md ops (fun env' σ' => ARun P Γ md ops K rest env' σ') [o] env σ := by
  unfold ARun at h ⊢
  split at h
  · exact h
  · split at h
    · split at h
      · obtain ⟨R, h1, h2, h3⟩ := h
        exact ⟨R, h1, h2, fun v σ' hv => h3 v σ' hv⟩
      · obtain ⟨R, h2, h3⟩ := h
        exact ⟨R, h2, fun b σ' hv => h3 b σ' hv⟩
      · exact h.elim
    · split at h
      · exact h
      · exact h.elim
  · exact h.elim
/-- One after the other. -/
theorem ADraw.rest (md : Bool) {ops : Array Oper} {K : Env → Sto → Prop} : ∀ {l : List Oper} {s : Nat} {env : Env} {σ : Sto}, (List.range' s l.length).all (fun i => blockB .any ops i 1) = true → ARun P Γ md ops K l env σ → ADraw F P Γ ops s l env σ K
  | [], s, env, σ, _, h => ADraw.done h
  | o :: l, s, env, σ, hb, h => by
    simp only [List.length_cons, List.range'_succ, List.all_cons, Bool.and_eq_true] at hb
    refine ADraw.one md hb.1 (ARun.mono ?_ h.split)
    intro env' σ' h'
    exact ADraw.rest md hb.2 h'
theorem keepB_sub {l l' : List Oper} {env : Env} {ts : List Nat} (hk : keepB l env ts = true) (hs : ∀ o ∈ l', ∃ o' ∈ l, o.dst = o'.dst) : ∀ o ∈ l', ∀ t, o.dst = some t → t < env.length ∧ t ∈ dstsOf l := by
  intro o ho t ht
  obtain ⟨o', h1, h2⟩ := hs o ho
  exact keepB_dst hk o' h1 t (by rw [← h2]; exact ht)
/-- A drawn region: m operations in whatever order, the others one after the other. -/
theorem AW.drawm (hm : P.follows .mixedOrders = true) (md : Bool) (m : Nat) {ts : List Nat} {id : Nat} {l : List Oper} {env : Env} {σ : Sto} {Q : Exit → Env → Sto → Prop} (hb : blockB .any l.toArray 0 m = true) (hr : (List.range' m (l.length - m)).all (fun i => blockB .any l.toArray i 1) = true) (hk : keepB l env ts = true)
    (h : AQF P Γ md l.toArray σ (fun fe => ARunF P Γ md l.toArray (fun fe' σ' => ∀ env', Wk env' (setAll env ts fe') → Q .normal env' σ') (l.drop m) fe σ) (l.take m) (fun t => env.getD t .any)) : AW F P Γ (.region id l.toArray true) env σ Q := by
  refine AW.draw hm ?_
  refine ADraw.block md m hb ?_
  refine AQ.mono ?_ (AQF.q (keepB_sub hk fun o ho => ⟨o, List.mem_of_mem_take ho, rfl⟩) (Agr.start env (dstsOf l)) h)
  rintro env' ⟨fe, h1, h2⟩
  refine ADraw.rest md (by rw [List.length_drop, Nat.zero_add]; exact hr) ?_
  refine ARun.mono ?_ (ARunF.run (keepB_sub hk fun o ho => ⟨o, List.mem_of_mem_drop ho, rfl⟩) h2 h1)
  rintro env'' σ' ⟨fe', h3, h4⟩
  exact h3 _ (h4.wk hk)
theorem AW.regml (hm : P.follows .mixedOrders = true) (md : Bool) (ts : List Nat) (m : Nat) {id : Nat} {l : List Oper} {y : Code} {env : Env} {σ : Sto} {Q : Exit → Env → Sto → Prop} (hb : blockB .any l.toArray 0 m = true) (hr : (List.range' m (l.length - m)).all (fun i => blockB .any l.toArray i 1) = true) (hk : keepB l env ts = true)
    (h : ∀ K : List AV → Sto → Prop, (∀ vs σ', AW F P Γ y (setL env ts vs) σ' Q → K vs σ') → AQF P Γ md l.toArray σ (fun fe => ARunF P Γ md l.toArray (fun fe' σ' => K (ts.map fe') σ') (l.drop m) fe σ) (l.take m) (fun t => env.getD t .any)) : AW F P Γ (.seq (.region id l.toArray true) y) env σ Q := by
  refine AW.seq (AW.drawm hm md m hb hr hk ?_)
  have := h (fun vs σ' => ∀ fe, vs = ts.map fe → ∀ env', Wk env' (setAll env ts fe) → AW F P Γ y env' σ' Q) (fun vs σ' hy fe e env' hw => AW.weaken hw (by rw [← setL_map, ← e]; exact hy))
  exact AQF.mono (fun fe h => ARunF.mono (fun fe' σ' h => h fe' rfl) h) this
theorem AW.lastml (hm : P.follows .mixedOrders = true) (md : Bool) (ts : List Nat) (m : Nat) {id : Nat} {l : List Oper} {env : Env} {σ : Sto} {Q : Exit → Env → Sto → Prop} (hb : blockB .any l.toArray 0 m = true) (hr : (List.range' m (l.length - m)).all (fun i => blockB .any l.toArray i 1) = true) (hk : keepB l env ts = true)
    (h : ∀ K : List AV → Sto → Prop, (∀ vs σ', (∀ env', Wk env' (setL env ts vs) → Q .normal env' σ') → K vs σ') → AQF P Γ md l.toArray σ (fun fe => ARunF P Γ md l.toArray (fun fe' σ' => K (ts.map fe') σ') (l.drop m) fe σ) (l.take m) (fun t => env.getD t .any)) : AW F P Γ (.region id l.toArray true) env σ Q := by
  refine AW.drawm hm md m hb hr hk ?_
  have := h (fun vs σ' => ∀ fe, vs = ts.map fe → ∀ env', Wk env' (setAll env ts fe) → Q .normal env' σ') (fun vs σ' hy fe e env' hw => hy env' (by rw [e, setL_map]; exact hw))
  exact AQF.mono (fun fe h => ARunF.mono (fun fe' σ' h => h fe' rfl) h) this
def storeAt (l : List Oper) (st t1 a1 a2 : Nat) : Bool := match l[st]? with
  | some o => (match o.op with | .store _ (.tmp t) _ => t == t1 | _ => false) && o.guard.isNone && o.dst.isNone && (edges .any o).contains a1 && (edges .any o).contains a2
  | none => false
attribute [go_sem] List.take_succ_cons List.take_zero List.drop_succ_cons List.drop_zero noAlloc
end Go.Proofs.Ev

