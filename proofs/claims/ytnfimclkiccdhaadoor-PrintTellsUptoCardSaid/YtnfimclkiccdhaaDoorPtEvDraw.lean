import Derived.Test.YtnfimclkiccdhaaDoorPtEvTy
import Derived.Orders
/-! Regions whose order is drawn. -/
namespace Go.Proofs.Ev
set_option linter.unusedSimpArgs false
set_option linter.unusedVariables false
open Go
variable {F : Fr} {P : Program} {Γ : List (Nat × List AV)}

def Agree (ts : List Tmp) (env env' : Env) : Prop := ∀ t ∈ ts, env[t]? = env'[t]?
theorem opnd_agree {env env' : Env} {x : Operand} (h : ∀ t, x = .tmp t → env[t]? = env'[t]?) : opnd Γ env x = opnd Γ env' x := by
  cases x with
  | tmp t =>
    show env.getD t .any = env'.getD t .any
    rw [List.getD_eq_getElem?_getD, List.getD_eq_getElem?_getD, h t rfl]
  | _ => rfl
theorem agree_opnd {ops : Array Oper} {o : Oper} {env env' : Env} (h : Agree (o.looksAt ops) env env') (x : Operand) (hx : x ∈ o.op.operands) : opnd Γ env x = opnd Γ env' x := by
  refine opnd_agree fun t e => h t ?_
  subst e
  refine List.mem_append_left _ ?_
  exact List.mem_filterMap.2 ⟨.tmp t, by simpa using hx, rfl⟩
theorem agree_wanted {ops : Array Oper} {o : Oper} {env env' : Env} (h : Agree (o.looksAt ops) env env') : aWanted ops env o = aWanted ops env' o := by
  unfold aWanted
  cases hg : o.guard with
  | none => rfl
  | some g =>
    obtain ⟨j, want⟩ := g
    have : aYield ops env j = aYield ops env' j := by
      unfold aYield
      cases hj : (ops[j]?).bind (·.dst) with
      | none => rfl
      | some t =>
        have ht : env[t]? = env'[t]? := h t (List.mem_append_right _ (by rw [hg]; simp only [hj]; simp))
        simp only [ht]
    simp only [this]
theorem agree_list {env env' : Env} (l : List Operand) (h : ∀ x ∈ l, opnd Γ env x = opnd Γ env' x) : l.map (opnd Γ env) = l.map (opnd Γ env') := List.map_congr_left h
theorem agree_parts {env env' : Env} (l : List (Nat × Operand)) (h : ∀ x ∈ l.map (·.2), opnd Γ env x = opnd Γ env' x) : aPartsOf Γ env l = aPartsOf Γ env' l := by
  refine List.map_congr_left fun p hp => ?_
  rw [h p.2 (List.mem_map_of_mem hp)]
theorem agree_aop {md : Bool} {σ : Sto} {op : Op} {env env' : Env} (h : ∀ x ∈ op.operands, opnd Γ env x = opnd Γ env' x) : aop P Γ md σ env op = aop P Γ md σ env' op := by
  cases op <;> try rfl
  case move x => simp only [aop, h x (by simp [Op.operands])]
  case assign x => simp only [aop, h x (by simp [Op.operands])]
  case pick c a b => simp only [aop, h c (by simp [Op.operands]), h a (by simp [Op.operands]), h b (by simp [Op.operands])]
  case box T x => simp only [aop, h x (by simp [Op.operands])]
  case build T parts => simp only [aop, agree_parts parts.toList (fun x hx => h x (by simpa [Op.operands] using hx))]
  case buildSlice T n parts => simp only [aop, agree_parts parts.toList (fun x hx => h x (by simpa [Op.operands] using hx))]
  case load T x => simp only [aop, h x (by simp [Op.operands])]
  case store T a x => simp only [aop, h x (by simp [Op.operands]), h a (by simp [Op.operands])]
  case nilCheck x => simp only [aop, h x (by simp [Op.operands])]
  case binOp op T x y U => simp only [aop, h x (by simp [Op.operands]), h y (by simp [Op.operands])]
  case unOp op T x => simp only [aop, h x (by simp [Op.operands])]
  case convert s d x => simp only [aop, h x (by simp [Op.operands])]
  case makeFunc c first caps =>
    cases c <;> try rfl
    simp only [aop, agree_list caps.toList (fun x hx => h x (by simp [Op.operands]; right; simpa using hx))]
  case makeMap T r => cases r <;> rfl
  case lookup T x k ok => simp only [aop, h x (by simp [Op.operands]), h k (by simp [Op.operands])]
  case mapEntry T m k => simp only [aop, h m (by simp [Op.operands]), h k (by simp [Op.operands])]
  case entryStore T m s x => simp only [aop, h m (by simp [Op.operands]), h s (by simp [Op.operands]), h x (by simp [Op.operands])]
  case mapUpdate T m k x => simp only [aop, h m (by simp [Op.operands]), h k (by simp [Op.operands]), h x (by simp [Op.operands])]
  case makeSlice T l c => simp only [aop, h l (by simp [Op.operands]), h c (by simp [Op.operands])]
  case slice T x lo hi mx =>
    cases mx <;> try rfl
    have e1 : lo.map (opnd Γ env) = lo.map (opnd Γ env') := by
      cases lo with
      | none => rfl
      | some u => simp only [Option.map_some, h u (by simp [Op.operands])]
    have e2 : hi.map (opnd Γ env) = hi.map (opnd Γ env') := by
      cases hi with
      | none => rfl
      | some u => simp only [Option.map_some, h u (by simp [Op.operands])]
    simp only [aop, h x (by simp [Op.operands]), e1, e2]
  case fieldAddr S x f => simp only [aop, h x (by simp [Op.operands])]
  case field S x f => simp only [aop, h x (by simp [Op.operands])]
  case indexAddr T x i => simp only [aop, h x (by simp [Op.operands]), h i (by simp [Op.operands])]
  case index T x i => simp only [aop, h x (by simp [Op.operands]), h i (by simp [Op.operands])]
  case extract t ix => simp only [aop, h t (by simp [Op.operands])]
  case call c =>
    obtain ⟨callee, args, ats⟩ := c
    cases callee <;> try rfl
    simp only [aop, agree_list args.toList (fun x hx => h x (by simpa [Op.operands, Call.operands] using hx))]

/-- One operation that turns nothing. -/
def Q1 (P : Program) (Γ : List (Nat × List AV)) (md : Bool) (ops : Array Oper) (σ : Sto) (o : Oper) (env : Env) (v : AV) : Prop :=
  match aWanted ops env o with
  | some false => v = .val undef
  | some true => match o.op with
    | .call { callee := .value x, args := as, argTypes := _ } => match opnd Γ env x with
      | .fn f caps => Enters P f ∧ ACalls P Γ f (as.toList.map (opnd Γ env) ++ caps) σ (fun v' σ' => σ' = σ ∧ v' = v)
      | _ => False
    | op => aop P Γ md σ env op = some (v, σ)
  | none => False
theorem Q1.agree {md : Bool} {ops : Array Oper} {σ : Sto} {o : Oper} {env env' : Env} {v : AV} (ha : Agree (o.looksAt ops) env env') (h : Q1 P Γ md ops σ o env v) : Q1 P Γ md ops σ o env' v := by
  unfold Q1 at h ⊢
  rw [← agree_wanted ha]
  have hop := agree_opnd (Γ := Γ) ha
  split at h
  · rename_i hw
    exact h
  · rename_i hw
    split at h
    · rename_i x as ts ho
      have hx : opnd Γ env x = opnd Γ env' x := hop x (by rw [ho]; simp [Op.operands, Call.operands])
      have has := agree_list as.toList (fun y hy => hop y (by rw [ho]; simp [Op.operands, Call.operands]; right; simpa using hy))
      rw [← hx, ← has]
      exact h
    · rename_i hno
      have := agree_aop (P := P) (md := md) (σ := σ) hop
      rw [← this]
      exact h
  · exact h.elim

/-- A run of operations that turn nothing. -/
def AQ (P : Program) (Γ : List (Nat × List AV)) (md : Bool) (ops : Array Oper) (σ : Sto) (K : Env → Prop) : List Oper → Env → Prop
  | [], env => K env
  | o :: rest, env => match aWanted ops env o with
    | some false => AQ P Γ md ops σ K rest (aput env o.dst (.val undef))
    | some true => match o.op with
      | .call { callee := .value x, args := as, argTypes := _ } => match opnd Γ env x with
        | .fn f caps => ∃ v, Enters P f ∧ ACalls P Γ f (as.toList.map (opnd Γ env) ++ caps) σ (fun v' σ' => σ' = σ ∧ v' = v) ∧ AQ P Γ md ops σ K rest (aput env o.dst v)
        | _ => False
      | op => match aop P Γ md σ env op with
        | some (v, σ') => σ' = σ ∧ AQ P Γ md ops σ K rest (aput env o.dst v)
        | none => False
    | none => False
theorem AQ.cons {md : Bool} {ops : Array Oper} {σ : Sto} {K : Env → Prop} {o : Oper} {rest : List Oper} {env : Env} (h : AQ P Γ md ops σ K (o :: rest) env) : ∃ v, Q1 P Γ md ops σ o env v ∧ AQ P Γ md ops σ K rest (aput env o.dst v) := by
  unfold AQ at h
  unfold Q1
  split at h
  · rename_i hw
    exact ⟨_, rfl, h⟩
  · rename_i hw
    split at h
    · rename_i x as ts ho
      split at h
      · rename_i f caps hx
        obtain ⟨v, h1, h2, h3⟩ := h
        exact ⟨v, ⟨h1, h2⟩, h3⟩
      · exact h.elim
    · rename_i hno
      split at h
      · rename_i v σ' hop
        obtain ⟨rfl, h⟩ := h
        exact ⟨v, hop, h⟩
      · exact h.elim
  · exact h.elim

/-- An operation in a region, whichever comes next. -/
theorem step_ok {md : Bool} {ops : Array Oper} {o : Oper} {i : Nat} (ho : ops[i]? = some o) {env : Env} {σ : Sto} {Kk : Env → Sto → Prop} (h : ARun P Γ md ops Kk [o] env σ) {C : Ctx} {a : Act} {Q : Exit → Act → World → Prop} {K : Act → World → Prop}
    (hs : Stands F Γ C a env σ) (hK : ∀ D a' env', Ext C D → Stands F Γ D a' env' D.σ → Kk env' D.σ → K a' D.w) : wpOpIn F.fence 3 P ops Q i K a C.w := by
  unfold wpOpIn
  simp only [ho]
  unfold ARun at h
  split at h
  · rename_i hw
    rw [if_neg (by rw [aWanted_ok hs.L hw]; simp)]
    refine ⟨fun f _ => fence_fn F f, ?_⟩
    exact hK C _ _ (Ext.refl _) ⟨rfl, hs.S, hs.G, aput_rel hs.L (show RelV C (.val undef) undef from rfl), by rw [put_defers]; exact hs.D⟩ (by rw [hs.σ]; exact h)
  · rename_i hw
    rw [if_pos (by rw [aWanted_ok hs.L hw])]
    refine ⟨fun f _ => fence_fn F f, ?_⟩
    split at h
    · rename_i x as ts hop
      split at h
      · rename_i f caps hx
        obtain ⟨R, hen, hc, hk⟩ := h
        have hxo := opnd_ok hs.G hs.L x
        rw [hx] at hxo
        obtain ⟨cs, he, hcs⟩ := hxo
        have hrun : (execOp a.eval o).run P C.w = .ok (.enter f ((as.toList.map a.eval) ++ cs).toArray) C.w := by
          unfold execOp
          simp [hop, resolve, he, Deferred.ofValue, invoke]
          rw [hen]
          congr 2
          apply Array.ext'
          simp
        rw [Oper.semAt_eq _ _ _ (fun c e => by rw [hop] at e; cases e), hrun]
        have hl : RelL C (as.toList.map (opnd Γ env) ++ caps) ((as.toList.map a.eval) ++ cs) := relL_append (opnds_ok hs.G hs.L as.toList) hcs
        refine ⟨fun h => fence_depth F h, callsF F ((hc C _ hs.σ hs.S hs.G hl).mono ?_)⟩
        rintro e w' ⟨D, y, v, rfl, rfl, k2, k3, k4, k5⟩
        exact hK D _ _ k2 (hs.did k2 k3 k4 o.dst) (hk v D.σ k5)
      · rename_i l hx
        obtain ⟨R, hc, hk⟩ := h
        have he : a.eval x = yv (C.φ l) := by
          have hxo := opnd_ok hs.G hs.L x
          rw [hx] at hxo
          exact hxo.2
        obtain ⟨fn, tmps, assign, body, hy, hR⟩ := hc C _ hs.σ hs.S hs.G (opnds_ok hs.G hs.L as.toList)
        have hrun : (execOp a.eval o).run P C.w = .ok (.round (C.φ l) fn tmps assign body) C.w := by
          unfold execOp
          simp [hop, resolve, he, yv, Deferred.ofValue, invoke]
          have e : (as.toList.map a.eval).toArray = as.map a.eval := by
            apply Array.ext'
            simp
          rw [e] at hy
          exact hy
        rw [Oper.semAt_eq _ _ _ (fun c e => by rw [hop] at e; cases e), hrun]
        refine ⟨fun h => fence_depth F h, roundF F (hR.mono ?_)⟩
        rintro e w' ⟨D, b, rfl, rfl, k2, k3, k5⟩
        exact hK D _ _ k2 (hs.did k2 k3 (v := .val (.bool b)) (show RelV D (.val (.bool b)) (.bool b) from rfl) o.dst) (hk b D.σ k5)
      · exact h.elim
    · split at h
      · rename_i v σ' hop
        obtain ⟨r, y, D, hrun, hr, k1, k2, k3, k4⟩ := aop_ok hs.S hs.G hs.L o (by rw [hs.σ]; exact hop)
        have hgo : K (a.put o.dst y) D.w := hK D _ _ k2 (hs.did k2 k3 k4 o.dst) (by rw [k1]; exact h)
        rw [Oper.semAt_eq _ _ _ (fun c e => by rw [e] at hop; simp [aop] at hop), hrun]
        rcases hr with rfl | ⟨rfl, rfl⟩ <;> exact hgo
      · exact h.elim
  · exact h.elim
theorem Q1.run {md : Bool} {ops : Array Oper} {σ : Sto} {o : Oper} {env : Env} {v : AV} (h : Q1 P Γ md ops σ o env v) : ARun P Γ md ops (fun env' σ' => env' = aput env o.dst v ∧ σ' = σ) [o] env σ := by
  unfold Q1 at h
  unfold ARun
  split at h
  · rename_i hw
    subst h
    simp only [hw]
    exact ⟨rfl, rfl⟩
  · rename_i hw
    simp only [hw]
    split at h
    · rename_i x as ts ho
      simp only [ho]
      split at h
      · rename_i f caps hx
        simp only [hx]
        exact ⟨_, h.1, h.2, fun v' σ' e => by rw [e.1, e.2]; exact ⟨rfl, rfl⟩⟩
      · exact h.elim
    · rename_i hno
      split
      · rename_i x as ts ho
        exact absurd ho (hno x as ts)
      · simp only [h]
        exact ⟨rfl, rfl⟩
  · exact h.elim
end Go.Proofs.Ev

