import Derived.Test.YtnfimclkiccdhaaDoorPtEvCode
/-! Reckoning: what an operation comes to, by what is known of types. -/
namespace Go.Proofs.Ev
set_option linter.unusedSimpArgs false
set_option linter.unusedVariables false
open Go
variable {F : Fr} {P : Program} {Γ : List (Nat × List AV)}

def tAgg (P : Program) (T : TypeId) : Option (Option Nat) := match P.underlying T, P.info? T with
  | some d, some i => some (if isAggD d then some i.size else none)
  | _, _ => none
theorem aGet_many {T : TypeId} {n : Nat} (h : tAgg P T = some (some n)) (cs : List AV) : aGet P T cs = if n ≤ cs.length then some (.agg (cs.take n)) else none := by
  unfold tAgg at h
  unfold aGet
  split at h <;> try (simp at h; done)
  rename_i d i hd hi
  simp only [hd, hi]
  cases d <;> simp [isAggD] at h ⊢ <;> subst h <;> rfl
theorem aGet_one {T : TypeId} (h : tAgg P T = some none) (cs : List AV) : aGet P T cs = cs.head? := by
  unfold tAgg at h
  unfold aGet
  split at h <;> try (simp at h; done)
  rename_i d i hd hi
  simp only [hd, hi]
  cases d <;> simp [isAggD] at h ⊢

def tFld (P : Program) (S : TypeId) (f : Nat) : Option (Nat × TypeId) := match P.underlying S with
  | some (.struct fs) => match fs[f]? with
    | some fd => match P.info? fd.type with
      | some i => if i.size = 0 then none else some (fd.offset, fd.type)
      | none => none
    | none => none
  | _ => none
def aOff (off : Nat) : AV → Option AV
  | .er cs => some (.er (cs.drop off))
  | .ref o k => some (.ref o (k + off))
  | _ => none
theorem aFieldAddr_eq {S : TypeId} {f off : Nat} {t : TypeId} (h : tFld P S f = some (off, t)) (p : AV) : aFieldAddr P S f p = aOff off p := by
  unfold tFld at h
  unfold aFieldAddr
  split at h <;> try (simp at h; done)
  rename_i fs hS
  split at h <;> try (simp at h; done)
  rename_i fd hf
  split at h <;> try (simp at h; done)
  rename_i i hi
  split at h <;> try (simp at h; done)
  rename_i hz
  cases h
  simp only [hS, hf, hi, if_neg hz]
  cases p <;> rfl
def aPartOf (r : Option Nat) (off : Nat) (cs : List AV) : Option AV := match r with
  | some n => some (.agg ((cs.drop off).take n))
  | none => cs[off]?
theorem aField_eq {S : TypeId} {f off : Nat} {t : TypeId} {r : Option Nat} (h : tFld P S f = some (off, t)) (hr : tAgg P t = some r) (cs : List AV) : aField P S f (.agg cs) = aPartOf r off cs := by
  unfold tFld at h
  unfold aField
  split at h <;> try (simp at h; done)
  rename_i fs hS
  split at h <;> try (simp at h; done)
  rename_i fd hf
  split at h <;> try (simp at h; done)
  rename_i i hi
  split at h <;> try (simp at h; done)
  cases h
  simp only [hS, hf]
  unfold tAgg at hr
  unfold aPart
  split at hr <;> try (simp at hr; done)
  rename_i d i' hd hi'
  simp only [hd, hi']
  cases hr
  cases isAggD d <;> rfl

def tElm (P : Program) (T : TypeId) : Option Nat := match P.underlying T with
  | some (.slice e) => (P.info? e).map (·.size)
  | _ => none
def aAt (sz : Nat) : AV → AV → Option AV
  | .sl z es, .val (.int _ n) => if z = sz ∧ 0 ≤ n ∧ n < es.length then some (.er (es.getD n.toNat .any).cells) else none
  | .slo _ z es _, .val (.int _ n) => if z = sz ∧ 0 ≤ n ∧ n < es.length then some (.er (es.getD n.toNat .any).cells) else none
  | .osl o off len z, .val (.int _ n) => if z = sz ∧ 0 ≤ n ∧ n < len then some (.ref o (off + n.toNat * z)) else none
  | _, _ => none
theorem aIndexAddr_eq {T : TypeId} {sz : Nat} (h : tElm P T = some sz) (x i : AV) : aIndexAddr P T x i = aAt sz x i := by
  unfold tElm at h
  unfold aIndexAddr
  split at h <;> try (simp at h; done)
  rename_i e hT
  obtain ⟨ie, hi, rfl⟩ := Option.map_eq_some_iff.1 h
  simp only [hT, hi]
  unfold aAt
  rfl
def aStoreN (σ : List AO) (n : Nat) (v : AV) : AV → Option (List AO)
  | .ref o off => match σ[o]? with
    | some (.cells cs) => if n = v.cells.length ∧ off + v.cells.length ≤ cs.length ∧ v.cells.all AV.one = true then some (σ.set o (.cells (aSplice cs off v.cells))) else none
    | _ => none
  | _ => none
theorem aStore_eq {T : TypeId} {n : Nat} (h : (P.info? T).map (·.size) = some n) (σ : List AO) (v p : AV) : aStore P σ T v p = aStoreN σ n v p := by
  unfold aStore aStoreN
  rw [h]
  simp only [Option.some.injEq]
  rfl

inductive LK where
  | str | sl | mp
def tLen (P : Program) (T : TypeId) : Option LK := match P.underlying T with
  | some .string => some .str
  | some (.slice _) => some .sl
  | some (.map _ _) => some .mp
  | _ => none
def aLenStr : AV → Option AV
  | .val (.string s) => some (.val (.int .i64 s.size))
  | _ => none
def aLenSl : AV → Option AV
  | .nilsl => some (.val (.int .i64 0))
  | .sl _ es => some (.val (.int .i64 es.length))
  | .slo _ _ es _ => some (.val (.int .i64 es.length))
  | .osl _ _ len _ => some (.val (.int .i64 len))
  | _ => none
theorem aLen_str {T : TypeId} (h : tLen P T = some .str) (σ : List AO) (x : AV) : aLen P σ T x = aLenStr x := by
  unfold tLen at h
  split at h <;> try (simp at h; done)
  rename_i hT
  unfold aLen aLenStr
  simp only [hT]
  rfl
theorem aLen_sl {T : TypeId} (h : tLen P T = some .sl) (σ : List AO) (x : AV) : aLen P σ T x = aLenSl x := by
  unfold tLen at h
  split at h <;> try (simp at h; done)
  rename_i hT
  unfold aLen aLenSl
  simp only [hT]
  rfl

/-- The operations one after the other; a call by a contract. -/
def ARun (P : Program) (Γ : List (Nat × List AV)) (md : Bool) (ops : Array Oper) (K : Env → Sto → Prop) : List Oper → Env → Sto → Prop
  | [], env, σ => K env σ
  | o :: rest, env, σ => match aWanted ops env o with
    | some false => ARun P Γ md ops K rest (aput env o.dst (.val undef)) σ
    | some true => match o.op with
      | .call { callee := .value x, args := as, argTypes := _ } => match opnd Γ env x with
        | .fn f caps => ∃ R, Enters P f ∧ ACalls P Γ f (as.toList.map (opnd Γ env) ++ caps) σ R ∧ ∀ v σ', R v σ' → ARun P Γ md ops K rest (aput env o.dst v) σ'
        | .yl l => ∃ R, ARound P Γ l (as.toList.map (opnd Γ env)) σ R ∧ ∀ b σ', R b σ' → ARun P Γ md ops K rest (aput env o.dst (.val (.bool b))) σ'
        | _ => False
      | op => match aop P Γ md σ env op with
        | some (v, σ') => ARun P Γ md ops K rest (aput env o.dst v) σ'
        | none => False
    | none => False
theorem ARun.ops {md : Bool} {ops : Array Oper} {K : Env → Sto → Prop} : ∀ {l : List Oper} {env : Env} {σ : Sto}, ARun P Γ md ops K l env σ → AOps F P Γ ops l env σ K
  | [], _, _, h => AOps.nil h
  | o :: rest, env, σ, h => by
    unfold ARun at h
    split at h
    · rename_i hw
      exact AOps.skip hw (ARun.ops h)
    · rename_i hw
      split at h
      · rename_i x as ts hop
        split at h
        · rename_i f caps hx
          obtain ⟨R, hen, hc, hk⟩ := h
          exact AOps.call hw hop hx rfl hen hc fun v σ' hr => ARun.ops (hk v σ' hr)
        · rename_i l hx
          obtain ⟨R, hc, hk⟩ := h
          exact AOps.yield hw hop hx hc fun b σ' hr => ARun.ops (hk b σ' hr)
        · exact h.elim
      · split at h
        · rename_i v σ' hop
          exact AOps.op hw hop (ARun.ops h)
        · exact h.elim
    · exact h.elim
theorem ARun.mono {md : Bool} {ops : Array Oper} {K K' : Env → Sto → Prop} (hk : ∀ env σ, K env σ → K' env σ) : ∀ {l : List Oper} {env : Env} {σ : Sto}, ARun P Γ md ops K l env σ → ARun P Γ md ops K' l env σ
  | [], _, _, h => hk _ _ h
  | o :: rest, env, σ, h => by
    unfold ARun at h ⊢
    split at h
    · exact ARun.mono hk h
    · split at h
      · split at h
        · obtain ⟨R, h1, h2, h3⟩ := h
          exact ⟨R, h1, h2, fun v σ' hr => ARun.mono hk (h3 v σ' hr)⟩
        · obtain ⟨R, h2, h3⟩ := h
          exact ⟨R, h2, fun v σ' hr => ARun.mono hk (h3 v σ' hr)⟩
        · exact h.elim
      · split at h
        · exact ARun.mono hk h
        · exact h.elim
    · exact h.elim
theorem AW.run (md : Bool) {id : Nat} {l : List Oper} {env : Env} {σ : Sto} {Q : Exit → Env → Sto → Prop} (h : ARun P Γ md l.toArray (Q .normal) l env σ) : AW F P Γ (.region id l.toArray false) env σ Q := AW.region (ARun.ops h)
end Go.Proofs.Ev

