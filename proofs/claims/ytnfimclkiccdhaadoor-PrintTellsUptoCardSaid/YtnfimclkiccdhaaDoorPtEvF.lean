import Derived.Test.YtnfimclkiccdhaaDoorPtEvRow
/-! Regions, reckoned with temporaries as a function: quicker. -/
namespace Go.Proofs.Ev
set_option linter.unusedSimpArgs false
set_option linter.unusedVariables false
open Go
variable {F : Fr} {P : Program} {Γ : List (Nat × List AV)}

abbrev FEnv := Nat → AV
def upd (fe : FEnv) (d : Option Tmp) (v : AV) : FEnv := match d with
  | some t => fun s => if s = t then v else fe s
  | none => fe
theorem upd_none (fe : FEnv) (v : AV) : upd fe none v = fe := rfl
theorem upd_at (fe : FEnv) (t s : Nat) (v : AV) : upd fe (some t) v s = if s = t then v else fe s := rfl
def opndF (Γ : List (Nat × List AV)) (fe : FEnv) : Operand → AV
  | .tmp t => fe t
  | x => opnd Γ [] x
theorem opndF_tmp (fe : FEnv) (t : Nat) : opndF Γ fe (.tmp t) = fe t := rfl
theorem opndF_const (fe : FEnv) (v : Value) : opndF Γ fe (.const v) = ofConst v := rfl
theorem opndF_func (fe : FEnv) (f : FuncId) : opndF Γ fe (.func f) = .fn f [] := rfl
theorem opndF_global (fe : FEnv) (g : Nat) : opndF Γ fe (.global g) = opnd Γ [] (.global g) := rfl
def aopR (P : Program) (md : Bool) (σ : Sto) (ρ : Operand → AV) : Op → Option (AV × Sto)
  | .move x | .assign x => some (ρ x, σ)
  | .pick c a b => match ρ c with
    | .val (.bool t) => some (if t then ρ a else ρ b, σ)
    | _ => none
  | .alloc T => match aZero P T with
    | some v => aNewVar σ v
    | none => none
  | .box _ x => aNewVar σ (ρ x)
  | .build T parts => (aBuild P T (parts.toList.map fun p => (p.1, ρ p.2))).map (·, σ)
  | .buildSlice T len parts => aRow P md σ T len (parts.toList.map fun p => (p.1, ρ p.2))
  | .load T x => (aLoad P σ T (ρ x)).map (·, σ)
  | .store T a x => (aStore P σ T (ρ x) (ρ a)).map (.any, ·)
  | .nilCheck x => match ρ x with
    | .er cs => some (.er cs, σ)
    | .ref o off => some (.ref o off, σ)
    | .fn f caps => some (.fn f caps, σ)
    | _ => none
  | .binOp op T x y _ => (aBin P op T (ρ x) (ρ y)).map (·, σ)
  | .unOp op _ x => (aUn op (ρ x)).map (·, σ)
  | .convert s d x => aConv P σ s d (ρ x)
  | .makeFunc (.func f) first caps => if first.toList.isEmpty = true then some (.fn f (caps.toList.map ρ), σ) else none
  | .makeSlice T l c => aMakeSlice P σ T (ρ l) (ρ c)
  | .slice T x lo hi none => (aSlice P T (ρ x) (lo.map ρ) (hi.map ρ)).map (·, σ)
  | .fieldAddr S x f => (aFieldAddr P S f (ρ x)).map (·, σ)
  | .field S x f => (aField P S f (ρ x)).map (·, σ)
  | .indexAddr T x i => (aIndexAddr P T (ρ x) (ρ i)).map (·, σ)
  | .index T x i => (aIndex P T (ρ x) (ρ i)).map (·, σ)
  | .extract t ix => (aExtract ix (ρ t)).map (·, σ)
  | .call { callee := .builtin b, args := args, argTypes := ts } => aBuiltin P md σ b ts.toList (args.toList.map ρ)
  | .makeMap _ none => aMakeMap σ
  | .lookup T x k ok => (aLookup P σ T ok (ρ x) (ρ k)).map (·, σ)
  | .mapEntry T m k => aMapEntry P σ T (ρ m) (ρ k)
  | .entryStore _ m s x => (aEntryStore σ (ρ m) (ρ s) (ρ x)).map (.any, ·)
  | .mapUpdate T m k x => (aMapUpd P σ T (ρ m) (ρ k) (ρ x)).map (.any, ·)
  | _ => none
theorem aopR_eq (md : Bool) (σ : Sto) (env : Env) (op : Op) : aopR P md σ (opnd Γ env) op = aop P Γ md σ env op := by
  cases op <;> rfl
theorem opndF_eq {fe : FEnv} {env : Env} (h : ∀ t, fe t = env.getD t .any) : opndF Γ fe = opnd Γ env := by
  funext x
  cases x with
  | tmp t => exact h t
  | _ => rfl
def aYieldFt (fe : FEnv) : Option Tmp → Option (Option Bool)
  | some t => aBoolOf (fe t)
  | none => none
def aYieldF (ops : Array Oper) (fe : FEnv) (j : Nat) : Option (Option Bool) := aYieldFt fe ((ops[j]?).bind (·.dst))
def aWantedF (ops : Array Oper) (fe : FEnv) (o : Oper) : Option Bool :=
  match o.guard with
  | none => some true
  | some (j, want) => (aYieldF ops fe j).map (· == some want)
theorem yieldF_some {ops : Array Oper} {fe : FEnv} {env : Env} (h : ∀ t, fe t = env.getD t .any) {j : Nat} {b : Option Bool} (hy : aYieldF ops fe j = some b) : aYield ops env j = some b := by
  unfold aYieldF at hy
  unfold aYield
  cases ht : (ops[j]?).bind (·.dst) with
  | none => rw [ht] at hy; cases hy
  | some t =>
    rw [ht] at hy
    simp only [aYieldFt] at hy
    rw [h, List.getD_eq_getElem?_getD] at hy
    cases he : env[t]? with
    | none => rw [he] at hy; cases hy
    | some v =>
      rw [he] at hy
      simpa [he] using hy
theorem wantedF_some {ops : Array Oper} {fe : FEnv} {env : Env} (h : ∀ t, fe t = env.getD t .any) {o : Oper} {b : Bool} (hy : aWantedF ops fe o = some b) : aWanted ops env o = some b := by
  unfold aWantedF at hy
  unfold aWanted
  split at hy
  · rename_i hg
    simp only [hg]
    exact hy
  · rename_i j want hg
    simp only [hg]
    obtain ⟨b', hb, rfl⟩ := Option.map_eq_some_iff.1 hy
    rw [yieldF_some h hb]
    rfl
def ARunF (P : Program) (Γ : List (Nat × List AV)) (md : Bool) (ops : Array Oper) (K : FEnv → Sto → Prop) : List Oper → FEnv → Sto → Prop
  | [], fe, σ => K fe σ
  | o :: rest, fe, σ => match aWantedF ops fe o with
    | some false => ARunF P Γ md ops K rest (upd fe o.dst (.val undef)) σ
    | some true => match o.op with
      | .call { callee := .value x, args := as, argTypes := _ } => match opndF Γ fe x with
        | .fn f caps => ∃ R, Enters P f ∧ ACalls P Γ f (as.toList.map (opndF Γ fe) ++ caps) σ R ∧ ∀ v σ', R v σ' → ARunF P Γ md ops K rest (upd fe o.dst v) σ'
        | .yl l => ∃ R, ARound P Γ l (as.toList.map (opndF Γ fe)) σ R ∧ ∀ b σ', R b σ' → ARunF P Γ md ops K rest (upd fe o.dst (.val (.bool b))) σ'
        | _ => False
      | op => match aopR P md σ (opndF Γ fe) op with
        | some (v, σ') => ARunF P Γ md ops K rest (upd fe o.dst v) σ'
        | none => False
    | none => False
/-- What is written, and where. -/
def dstsOf (l : List Oper) : List Nat := l.filterMap (·.dst)
structure Agr (n : Nat) (ds : List Nat) (env0 : Env) (fe : FEnv) (env : Env) : Prop where
  get : ∀ t, fe t = env.getD t .any
  len : env.length = n
  old : ∀ t, t ∉ ds → env.getD t .any = env0.getD t .any
theorem Agr.upd {n : Nat} {ds : List Nat} {env0 : Env} {fe : FEnv} {env : Env} (h : Agr n ds env0 fe env) {d : Option Tmp} (hd : ∀ t, d = some t → t < n ∧ t ∈ ds) (v : AV) : Agr n ds env0 (upd fe d v) (aput env d v) := by
  cases d with
  | none => exact h
  | some t =>
    obtain ⟨h1, h2⟩ := hd t rfl
    refine ⟨fun s => ?_, by simp [aput, h.len], fun s hs => ?_⟩
    · simp only [upd_at, aput]
      by_cases hst : s = t
      · subst hst
        rw [if_pos rfl, List.getD_eq_getElem?_getD, List.getElem?_set_self (by rw [h.len]; exact h1)]
        rfl
      · rw [if_neg hst, h.get, List.getD_eq_getElem?_getD, List.getD_eq_getElem?_getD, List.getElem?_set_ne (Ne.symm hst)]
    · rw [← h.old s hs]
      have hst : t ≠ s := fun e => hs (e ▸ h2)
      simp only [aput, List.getD_eq_getElem?_getD]
      rw [List.getElem?_set_ne hst]
theorem ARunF.run {md : Bool} {ops : Array Oper} {K : FEnv → Sto → Prop} {n : Nat} {ds : List Nat} {env0 : Env} : ∀ {l : List Oper} {fe : FEnv} {env : Env} {σ : Sto}, (∀ o ∈ l, ∀ t, o.dst = some t → t < n ∧ t ∈ ds) → Agr n ds env0 fe env → ARunF P Γ md ops K l fe σ →
    ARun P Γ md ops (fun env' σ' => ∃ fe', K fe' σ' ∧ Agr n ds env0 fe' env') l env σ
  | [], fe, env, σ, _, ha, h => ⟨fe, h, ha⟩
  | o :: rest, fe, env, σ, hl, ha, h => by
    have hr := fun o' h' => hl o' (List.mem_cons_of_mem _ h')
    have ho := hl o List.mem_cons_self
    have hop := opndF_eq (Γ := Γ) ha.get
    unfold ARunF at h
    unfold ARun
    split at h
    · rename_i hw
      simp only [wantedF_some ha.get hw]
      exact ARunF.run hr (ha.upd ho (.val undef)) h
    · rename_i hw
      simp only [wantedF_some ha.get hw]
      split at h
      · rename_i x as ts hoe
        simp only [hoe]
        rw [hop] at h
        split at h
        · rename_i f caps hx
          simp only [hx]
          obtain ⟨R, h1, h2, h3⟩ := h
          exact ⟨R, h1, h2, fun v σ' hv => ARunF.run hr (ha.upd ho v) (h3 v σ' hv)⟩
        · rename_i l hx
          simp only [hx]
          obtain ⟨R, h2, h3⟩ := h
          exact ⟨R, h2, fun b σ' hv => ARunF.run hr (ha.upd ho _) (h3 b σ' hv)⟩
        · exact h.elim
      · rename_i hno
        rw [hop, aopR_eq] at h
        split
        · rename_i x as ts hoe
          exact absurd hoe (hno x as ts)
        · split at h
          · rename_i v σ' he
            simp only [he]
            exact ARunF.run hr (ha.upd ho v) h
          · exact h.elim
    · exact h.elim

def setAll (env : Env) : List Nat → FEnv → Env
  | [], _ => env
  | t :: ts, fe => setAll (env.set t (fe t)) ts fe
theorem setAll_length (fe : FEnv) : ∀ (ts : List Nat) (env : Env), (setAll env ts fe).length = env.length
  | [], _ => rfl
  | t :: ts, env => by rw [setAll, setAll_length fe ts]; simp
theorem setAll_not (fe : FEnv) {s : Nat} : ∀ (ts : List Nat) (env : Env), s ∉ ts → (setAll env ts fe).getD s .any = env.getD s .any
  | [], _, _ => rfl
  | t :: ts, env, h => by
    rw [setAll, setAll_not fe ts _ (fun h' => h (List.mem_cons_of_mem _ h'))]
    have : t ≠ s := fun e => h (e ▸ List.mem_cons_self)
    simp only [List.getD_eq_getElem?_getD]
    rw [List.getElem?_set_ne this]
theorem setAll_mem (fe : FEnv) {s : Nat} : ∀ (ts : List Nat) (env : Env), s < env.length → s ∈ ts → (setAll env ts fe).getD s .any = fe s
  | t :: ts, env, hl, h => by
    rw [setAll]
    by_cases hs : s ∈ ts
    · exact setAll_mem fe ts _ (by simpa using hl) hs
    · rw [setAll_not fe ts _ hs]
      rcases List.mem_cons.1 h with rfl | h
      · simp only [List.getD_eq_getElem?_getD]
        rw [List.getElem?_set_self hl]
        rfl
      · exact absurd h hs
def AV.isAny : AV → Bool
  | .any => true
  | _ => false
theorem isAny_eq {v : AV} (h : v.isAny = true) : v = .any := by cases v <;> simp [AV.isAny] at h ⊢
/-- All that is written lies within; what is written and not kept was not known. -/
def keepB (l : List Oper) (env : Env) (ts : List Nat) : Bool :=
  l.all fun o => match o.dst with
    | none => true
    | some t => decide (t < env.length) && (ts.contains t || (env.getD t .any).isAny)
theorem wk_of : ∀ {l m : Env}, l.length = m.length → (∀ t, m.getD t .any = .any ∨ m.getD t .any = l.getD t .any) → Wk l m
  | [], [], _, _ => trivial
  | v :: l, w :: m, hl, h => ⟨h 0, wk_of (by simpa using hl) (fun t => h (t + 1))⟩
  | [], _ :: _, hl, _ => by simp at hl
  | _ :: _, [], hl, _ => by simp at hl
theorem Agr.wk {l : List Oper} {env env' : Env} {ts : List Nat} {fe : FEnv} (hk : keepB l env ts = true) (h : Agr env.length (dstsOf l) env fe env') : Wk env' (setAll env ts fe) := by
  refine wk_of (by rw [setAll_length, h.len]) fun t => ?_
  by_cases ht : t < env.length
  · by_cases hs : t ∈ ts
    · rw [setAll_mem fe ts env ht hs, h.get]
      exact .inr rfl
    · rw [setAll_not fe ts env hs]
      by_cases hd : t ∈ dstsOf l
      · left
        obtain ⟨o, ho, hdo⟩ := List.mem_filterMap.1 hd
        have := List.all_eq_true.1 hk o ho
        simp only [hdo, Bool.and_eq_true, Bool.or_eq_true, List.contains_iff_mem] at this
        exact isAny_eq (this.2.resolve_left (by simpa using hs))
      · exact .inr (h.old t hd).symm
  · left
    rw [List.getD_eq_getElem?_getD, List.getElem?_eq_none (by rw [setAll_length]; omega)]
    rfl
theorem keepB_dst {l : List Oper} {env : Env} {ts : List Nat} (hk : keepB l env ts = true) : ∀ o ∈ l, ∀ t, o.dst = some t → t < env.length ∧ t ∈ dstsOf l := by
  intro o ho t ht
  have := List.all_eq_true.1 hk o ho
  simp only [ht, Bool.and_eq_true, decide_eq_true_eq] at this
  exact ⟨this.1, List.mem_filterMap.2 ⟨o, ho, ht⟩⟩
theorem Agr.start (env : Env) (ds : List Nat) : Agr env.length ds env (fun t => env.getD t .any) env := ⟨fun _ => rfl, rfl, fun _ _ => rfl⟩
/-- A region of which some temporaries are kept. -/
theorem AW.regf (md : Bool) (ts : List Nat) {id : Nat} {l : List Oper} {y : Code} {env : Env} {σ : Sto} {Q : Exit → Env → Sto → Prop} (hk : keepB l env ts = true)
    (h : ∀ K : FEnv → Sto → Prop, (∀ fe σ', AW F P Γ y (setAll env ts fe) σ' Q → K fe σ') → ARunF P Γ md l.toArray K l (fun t => env.getD t .any) σ) : AW F P Γ (.seq (.region id l.toArray false) y) env σ Q := by
  refine AW.reg md fun K hK => ?_
  refine ARun.mono ?_ (ARunF.run (keepB_dst hk) (Agr.start env (dstsOf l)) (h (fun fe σ' => AW F P Γ y (setAll env ts fe) σ' Q) (fun _ _ h => h)))
  rintro env' σ' ⟨fe, h1, h2⟩
  exact hK _ _ (AW.weaken (h2.wk hk) h1)
theorem AW.lastf (md : Bool) (ts : List Nat) {id : Nat} {l : List Oper} {env : Env} {σ : Sto} {Q : Exit → Env → Sto → Prop} (hk : keepB l env ts = true)
    (h : ∀ K : FEnv → Sto → Prop, (∀ fe σ', (∀ env', Wk env' (setAll env ts fe) → Q .normal env' σ') → K fe σ') → ARunF P Γ md l.toArray K l (fun t => env.getD t .any) σ) : AW F P Γ (.region id l.toArray false) env σ Q := by
  refine AW.run md ?_
  refine ARun.mono ?_ (ARunF.run (keepB_dst hk) (Agr.start env (dstsOf l)) (h (fun fe σ' => ∀ env', Wk env' (setAll env ts fe) → Q .normal env' σ') (fun _ _ h => h)))
  rintro env' σ' ⟨fe, h1, h2⟩
  exact h1 _ (h2.wk hk)
theorem Wk.get : ∀ {l m : Env} (t : Nat), Wk l m → l.length = m.length ∧ (m.getD t .any = .any ∨ m.getD t .any = l.getD t .any)
  | [], [], _, _ => ⟨rfl, .inl rfl⟩
  | v :: l, w :: m, 0, h => ⟨by have := (Wk.get 0 h.2).1; simp [this], h.1⟩
  | v :: l, w :: m, t + 1, h => by
    obtain ⟨h1, h2⟩ := Wk.get t h.2
    exact ⟨by simp [h1], h2⟩
  | [], _ :: _, _, h => h.elim
  | _ :: _, [], _, h => h.elim
theorem Wk.trans {a b c : Env} (h : Wk a b) (k : Wk b c) : Wk a c := by
  refine wk_of ((Wk.get 0 h).1.trans (Wk.get 0 k).1) fun t => ?_
  rcases (Wk.get t k).2 with e | e
  · exact .inl e
  · rcases (Wk.get t h).2 with e' | e'
    · exact .inl (e.trans e')
    · exact .inr (e.trans e')
theorem AW.regtf (md : Bool) (t : Nat) (v : AV) {id : Nat} {l : List Oper} {y : Code} {env : Env} {σ : Sto} {Q : Exit → Env → Sto → Prop} (hk : keepB l env [t] = true)
    (h : ARunF P Γ md l.toArray (fun fe σ' => fe t = v ∧ σ' = σ) l (fun t => env.getD t .any) σ) (k : AW F P Γ y (env.set t v) σ Q) : AW F P Γ (.seq (.region id l.toArray false) y) env σ Q := by
  refine AW.reg md fun K hK => ?_
  refine ARun.mono ?_ (ARunF.run (keepB_dst hk) (Agr.start env (dstsOf l)) h)
  rintro env' σ' ⟨fe, ⟨rfl, rfl⟩, h2⟩
  exact hK _ _ (AW.weaken (h2.wk hk) k)

/-- A run of operations that turn nothing. -/
def AQF (P : Program) (Γ : List (Nat × List AV)) (md : Bool) (ops : Array Oper) (σ : Sto) (K : FEnv → Prop) : List Oper → FEnv → Prop
  | [], fe => K fe
  | o :: rest, fe => match aWantedF ops fe o with
    | some false => AQF P Γ md ops σ K rest (upd fe o.dst (.val undef))
    | some true => match o.op with
      | .call { callee := .value x, args := as, argTypes := _ } => match opndF Γ fe x with
        | .fn f caps => ∃ v, Enters P f ∧ ACalls P Γ f (as.toList.map (opndF Γ fe) ++ caps) σ (fun v' σ' => σ' = σ ∧ v' = v) ∧ AQF P Γ md ops σ K rest (upd fe o.dst v)
        | _ => False
      | op => match aopR P md σ (opndF Γ fe) op with
        | some (v, σ') => σ' = σ ∧ AQF P Γ md ops σ K rest (upd fe o.dst v)
        | none => False
    | none => False
theorem AQF.q {md : Bool} {ops : Array Oper} {σ : Sto} {K : FEnv → Prop} {n : Nat} {ds : List Nat} {env0 : Env} : ∀ {l : List Oper} {fe : FEnv} {env : Env}, (∀ o ∈ l, ∀ t, o.dst = some t → t < n ∧ t ∈ ds) → Agr n ds env0 fe env → AQF P Γ md ops σ K l fe →
    AQ P Γ md ops σ (fun env' => ∃ fe', K fe' ∧ Agr n ds env0 fe' env') l env
  | [], fe, env, _, ha, h => ⟨fe, h, ha⟩
  | o :: rest, fe, env, hl, ha, h => by
    have hr := fun o' h' => hl o' (List.mem_cons_of_mem _ h')
    have ho := hl o List.mem_cons_self
    have hop := opndF_eq (Γ := Γ) ha.get
    unfold AQF at h
    unfold AQ
    split at h
    · rename_i hw
      simp only [wantedF_some ha.get hw]
      exact AQF.q hr (ha.upd ho (.val undef)) h
    · rename_i hw
      simp only [wantedF_some ha.get hw]
      split at h
      · rename_i x as ts hoe
        simp only [hoe]
        rw [hop] at h
        split at h
        · rename_i f caps hx
          simp only [hx]
          obtain ⟨v, h1, h2, h3⟩ := h
          exact ⟨v, h1, h2, AQF.q hr (ha.upd ho v) h3⟩
        · exact h.elim
      · rename_i hno
        rw [hop, aopR_eq] at h
        split
        · rename_i x as ts hoe
          exact absurd hoe (hno x as ts)
        · split at h
          · rename_i v σ' he
            simp only [he]
            exact ⟨h.1, AQF.q hr (ha.upd ho v) h.2⟩
          · exact h.elim
    · exact h.elim
theorem ARunF.mono {md : Bool} {ops : Array Oper} {K K' : FEnv → Sto → Prop} (hk : ∀ fe σ, K fe σ → K' fe σ) : ∀ {l : List Oper} {fe : FEnv} {σ : Sto}, ARunF P Γ md ops K l fe σ → ARunF P Γ md ops K' l fe σ
  | [], _, _, h => hk _ _ h
  | o :: rest, fe, σ, h => by
    unfold ARunF at h ⊢
    split at h
    · exact ARunF.mono hk h
    · split at h
      · split at h
        · obtain ⟨R, h1, h2, h3⟩ := h
          exact ⟨R, h1, h2, fun v σ' hr => ARunF.mono hk (h3 v σ' hr)⟩
        · obtain ⟨R, h2, h3⟩ := h
          exact ⟨R, h2, fun v σ' hr => ARunF.mono hk (h3 v σ' hr)⟩
        · exact h.elim
      · split at h
        · exact ARunF.mono hk h
        · exact h.elim
    · exact h.elim
theorem AQ.mono {md : Bool} {ops : Array Oper} {σ : Sto} {K K' : Env → Prop} (hk : ∀ env, K env → K' env) : ∀ {l : List Oper} {env : Env}, AQ P Γ md ops σ K l env → AQ P Γ md ops σ K' l env
  | [], _, h => hk _ h
  | o :: rest, env, h => by
    unfold AQ at h ⊢
    split at h
    · exact AQ.mono hk h
    · split at h
      · split at h
        · obtain ⟨R, h1, h2, h3⟩ := h
          exact ⟨R, h1, h2, AQ.mono hk h3⟩
        · exact h.elim
      · split at h
        · exact ⟨h.1, AQ.mono hk h.2⟩
        · exact h.elim
    · exact h.elim
theorem AQF.mono {md : Bool} {ops : Array Oper} {σ : Sto} {K K' : FEnv → Prop} (hk : ∀ fe, K fe → K' fe) : ∀ {l : List Oper} {fe : FEnv}, AQF P Γ md ops σ K l fe → AQF P Γ md ops σ K' l fe
  | [], _, h => hk _ h
  | o :: rest, fe, h => by
    unfold AQF at h ⊢
    split at h
    · exact AQF.mono hk h
    · split at h
      · split at h
        · obtain ⟨R, h1, h2, h3⟩ := h
          exact ⟨R, h1, h2, AQF.mono hk h3⟩
        · exact h.elim
      · split at h
        · exact ⟨h.1, AQF.mono hk h.2⟩
        · exact h.elim
    · exact h.elim
theorem AW.drawf (hm : P.follows .mixedOrders = true) (md : Bool) {ts : List Nat} {id : Nat} {l : List Oper} {env : Env} {σ : Sto} {Q : Exit → Env → Sto → Prop} (hb : blockB .any l.toArray 0 l.length = true) (hk : keepB l env ts = true)
    (h : AQF P Γ md l.toArray σ (fun fe => ∀ env', Wk env' (setAll env ts fe) → Q .normal env' σ) l (fun t => env.getD t .any)) : AW F P Γ (.region id l.toArray true) env σ Q := by
  refine AW.draw hm ?_
  refine ADraw.block md l.length hb ?_
  rw [List.take_length, List.drop_length]
  refine AQ.mono ?_ (AQF.q (keepB_dst hk) (Agr.start env (dstsOf l)) h)
  rintro env' ⟨fe, h1, h2⟩
  refine ADraw.done (h1 _ (h2.wk hk))
theorem AW.regdf (hm : P.follows .mixedOrders = true) (md : Bool) (ts : List Nat) {id : Nat} {l : List Oper} {y : Code} {env : Env} {σ : Sto} {Q : Exit → Env → Sto → Prop} (hb : blockB .any l.toArray 0 l.length = true) (hk : keepB l env ts = true)
    (h : ∀ K : FEnv → Prop, (∀ fe, AW F P Γ y (setAll env ts fe) σ Q → K fe) → AQF P Γ md l.toArray σ K l (fun t => env.getD t .any)) : AW F P Γ (.seq (.region id l.toArray true) y) env σ Q := by
  refine AW.seq (AW.drawf hm md hb hk (h _ fun fe hy env' hw => AW.weaken hw hy))
theorem getD_cons0 (a : AV) (l : Env) (d : AV) : (a :: l).getD 0 d = a := rfl
theorem yieldF_eq (l : List Oper) (fe : FEnv) (j : Nat) : aYieldF l.toArray fe j = aYieldFt fe ((l[j]?).bind (·.dst)) := by
  unfold aYieldF
  rw [List.getElem?_toArray]
theorem yieldFt_some (fe : FEnv) (t : Tmp) : aYieldFt fe (some t) = aBoolOf (fe t) := rfl
theorem boolOf (b : Bool) : aBoolOf (.val (.bool b)) = some (some b) := rfl
theorem boolOf_undef : aBoolOf (.val undef) = some none := rfl
theorem beq_some (a b : Bool) : (some a == some b) = (a == b) := rfl
theorem beq_none (b : Bool) : ((none : Option Bool) == some b) = false := rfl
theorem wantedF_none (ops : Array Oper) (fe : FEnv) (d : Option Tmp) (op : Op) (ty : TypeId) (pos : String) (af : Array Edge) : aWantedF ops fe ⟨d, op, ty, pos, af, none⟩ = some true := rfl
theorem wantedF_guard (ops : Array Oper) (fe : FEnv) (d : Option Tmp) (op : Op) (ty : TypeId) (pos : String) (af : Array Edge) (j : Nat) (w : Bool) : aWantedF ops fe ⟨d, op, ty, pos, af, some (j, w)⟩ = (aYieldF ops fe j).map (· == some w) := rfl
def setL : Env → List Nat → List AV → Env
  | env, t :: ts, v :: vs => setL (env.set t v) ts vs
  | env, _, _ => env
theorem setL_map (fe : FEnv) : ∀ (ts : List Nat) (env : Env), setL env ts (ts.map fe) = setAll env ts fe
  | [], env => by cases env <;> rfl
  | t :: ts, env => setL_map fe ts _
/-- A region of which some temporaries are kept: told by their values. -/
theorem AW.regl (md : Bool) (ts : List Nat) {id : Nat} {l : List Oper} {y : Code} {env : Env} {σ : Sto} {Q : Exit → Env → Sto → Prop} (hk : keepB l env ts = true)
    (h : ∀ K : List AV → Sto → Prop, (∀ vs σ', AW F P Γ y (setL env ts vs) σ' Q → K vs σ') → ARunF P Γ md l.toArray (fun fe σ' => K (ts.map fe) σ') l (fun t => env.getD t .any) σ) : AW F P Γ (.seq (.region id l.toArray false) y) env σ Q :=
  AW.regf md ts hk fun K hK => h (fun vs σ' => ∀ fe, vs = ts.map fe → K fe σ') (fun vs σ' hy fe e => hK fe σ' (by rw [← setL_map, ← e]; exact hy)) |> ARunF.mono fun fe σ' h => h fe rfl
theorem AW.lastl (md : Bool) (ts : List Nat) {id : Nat} {l : List Oper} {env : Env} {σ : Sto} {Q : Exit → Env → Sto → Prop} (hk : keepB l env ts = true)
    (h : ∀ K : List AV → Sto → Prop, (∀ vs σ', (∀ env', Wk env' (setL env ts vs) → Q .normal env' σ') → K vs σ') → ARunF P Γ md l.toArray (fun fe σ' => K (ts.map fe) σ') l (fun t => env.getD t .any) σ) : AW F P Γ (.region id l.toArray false) env σ Q :=
  AW.lastf md ts hk fun K hK => h (fun vs σ' => ∀ fe, vs = ts.map fe → K fe σ') (fun vs σ' hy fe e => hK fe σ' (by rw [← setL_map, ← e]; exact hy)) |> ARunF.mono fun fe σ' h => h fe rfl
theorem AW.regdl (hm : P.follows .mixedOrders = true) (md : Bool) (ts : List Nat) {id : Nat} {l : List Oper} {y : Code} {env : Env} {σ : Sto} {Q : Exit → Env → Sto → Prop} (hb : blockB .any l.toArray 0 l.length = true) (hk : keepB l env ts = true)
    (h : ∀ K : List AV → Prop, (∀ vs, AW F P Γ y (setL env ts vs) σ Q → K vs) → AQF P Γ md l.toArray σ (fun fe => K (ts.map fe)) l (fun t => env.getD t .any)) : AW F P Γ (.seq (.region id l.toArray true) y) env σ Q :=
  AW.regdf hm md ts hb hk fun K hK => h (fun vs => ∀ fe, vs = ts.map fe → K fe) (fun vs hy fe e => hK fe (by rw [← setL_map, ← e]; exact hy)) |> AQF.mono fun fe h => h fe rfl
theorem setL_nil (env : Env) (ts : List Nat) : setL env ts [] = env := by cases ts <;> rfl
theorem setL_cons (env : Env) (t : Nat) (ts : List Nat) (v : AV) (vs : List AV) : setL env (t :: ts) (v :: vs) = setL (env.set t v) ts vs := rfl
def aAlloc (P : Program) (σ : Sto) (T : TypeId) : Option (AV × Sto) := match aZero P T with
  | some v => aNewVar σ v
  | none => none
theorem alloc_eq {T : TypeId} {v : AV} (h : aZero P T = some v) (σ : Sto) : aAlloc P σ T = aNewVar σ v := by simp only [aAlloc, h]
def aNilC (σ : Sto) : AV → Option (AV × Sto)
  | .er cs => some (.er cs, σ)
  | .ref o off => some (.ref o off, σ)
  | .fn f caps => some (.fn f caps, σ)
  | _ => none
def aPick (σ : Sto) (c a b : AV) : Option (AV × Sto) := match c with
  | .val (.bool t) => some (if t then a else b, σ)
  | _ => none
theorem nilC_er (σ : Sto) (cs : List AV) : aNilC σ (.er cs) = some (.er cs, σ) := rfl
theorem nilC_ref (σ : Sto) (o off : Nat) : aNilC σ (.ref o off) = some (.ref o off, σ) := rfl
theorem nilC_fn (σ : Sto) (f : FuncId) (caps : List AV) : aNilC σ (.fn f caps) = some (.fn f caps, σ) := rfl
theorem pick_tt (σ : Sto) (a b : AV) : aPick σ (.val (.bool true)) a b = some (a, σ) := rfl
theorem pick_ff (σ : Sto) (a b : AV) : aPick σ (.val (.bool false)) a b = some (b, σ) := rfl
/-- The step, by what is known so far: no part of it is a function, so that nothing is reckoned ahead of its time. -/
def sR (P : Program) (Γ : List (Nat × List AV)) (md : Bool) (ops : Array Oper) (K : FEnv → Sto → Prop) (r : Option (AV × Sto)) (d : Option Tmp) (rest : List Oper) (fe : FEnv) : Prop := match r with
  | some (v, σ') => ARunF P Γ md ops K rest (upd fe d v) σ'
  | none => False
def sC (P : Program) (Γ : List (Nat × List AV)) (md : Bool) (ops : Array Oper) (K : FEnv → Sto → Prop) (x : AV) (as : List AV) (d : Option Tmp) (rest : List Oper) (fe : FEnv) (σ : Sto) : Prop := match x with
  | .fn f caps => ∃ R, Enters P f ∧ ACalls P Γ f (as ++ caps) σ R ∧ ∀ v σ', R v σ' → ARunF P Γ md ops K rest (upd fe d v) σ'
  | .yl l => ∃ R, ARound P Γ l as σ R ∧ ∀ b σ', R b σ' → ARunF P Γ md ops K rest (upd fe d (.val (.bool b))) σ'
  | _ => False
def sO (P : Program) (Γ : List (Nat × List AV)) (md : Bool) (ops : Array Oper) (K : FEnv → Sto → Prop) (op : Op) (d : Option Tmp) (rest : List Oper) (fe : FEnv) (σ : Sto) : Prop := match op with
  | .call { callee := .value x, args := as, argTypes := _ } => sC P Γ md ops K (opndF Γ fe x) (as.toList.map (opndF Γ fe)) d rest fe σ
  | op => sR P Γ md ops K (aopR P md σ (opndF Γ fe) op) d rest fe
def sW (P : Program) (Γ : List (Nat × List AV)) (md : Bool) (ops : Array Oper) (K : FEnv → Sto → Prop) (w : Option Bool) (op : Op) (d : Option Tmp) (rest : List Oper) (fe : FEnv) (σ : Sto) : Prop := match w with
  | some false => ARunF P Γ md ops K rest (upd fe d (.val undef)) σ
  | some true => sO P Γ md ops K op d rest fe σ
  | none => False
theorem runF_nil (md : Bool) (ops : Array Oper) (K : FEnv → Sto → Prop) (fe : FEnv) (σ : Sto) : ARunF P Γ md ops K [] fe σ = K fe σ := rfl
theorem runF_cons (md : Bool) (ops : Array Oper) (K : FEnv → Sto → Prop) (dd : Option Tmp) (op : Op) (ty : TypeId) (pos : String) (af : Array Edge) (g : Option (Nat × Bool)) (rest : List Oper) (fe : FEnv) (σ : Sto) :
    ARunF P Γ md ops K (⟨dd, op, ty, pos, af, g⟩ :: rest) fe σ = sW P Γ md ops K (aWantedF ops fe ⟨dd, op, ty, pos, af, g⟩) op dd rest fe σ := by
  rw [ARunF]
  unfold sW sO sC sR
  rfl
theorem sR_some (md : Bool) (ops : Array Oper) (K : FEnv → Sto → Prop) (v : AV) (σ' : Sto) (d : Option Tmp) (rest : List Oper) (fe : FEnv) : sR P Γ md ops K (some (v, σ')) d rest fe = ARunF P Γ md ops K rest (upd fe d v) σ' := rfl
theorem sW_tt (md : Bool) (ops : Array Oper) (K : FEnv → Sto → Prop) (op : Op) (d : Option Tmp) (rest : List Oper) (fe : FEnv) (σ : Sto) : sW P Γ md ops K (some true) op d rest fe σ = sO P Γ md ops K op d rest fe σ := rfl
theorem sW_ff (md : Bool) (ops : Array Oper) (K : FEnv → Sto → Prop) (op : Op) (d : Option Tmp) (rest : List Oper) (fe : FEnv) (σ : Sto) : sW P Γ md ops K (some false) op d rest fe σ = ARunF P Γ md ops K rest (upd fe d (.val undef)) σ := rfl
theorem sO_call (md : Bool) (ops : Array Oper) (K : FEnv → Sto → Prop) (x : Operand) (as : Array Operand) (ts : Array TypeId) (d : Option Tmp) (rest : List Oper) (fe : FEnv) (σ : Sto) :
    sO P Γ md ops K (.call { callee := .value x, args := as, argTypes := ts }) d rest fe σ = sC P Γ md ops K (opndF Γ fe x) (as.toList.map (opndF Γ fe)) d rest fe σ := rfl
/-- A call: by a contract of one outcome. -/
theorem sC.of {md : Bool} {ops : Array Oper} {K : FEnv → Sto → Prop} {f : FuncId} {caps as args : List AV} {d : Option Tmp} {rest : List Oper} {fe : FEnv} {σ : Sto} {v : AV} (hen : Enters P f) (hc : ACalls P Γ f args σ (fun v' σ' => σ' = σ ∧ v' = v)) (ha : as ++ caps = args) (h : ARunF P Γ md ops K rest (upd fe d v) σ) :
    sC P Γ md ops K (.fn f caps) as d rest fe σ := ⟨_, hen, ha ▸ hc, fun _ _ ⟨h1, h2⟩ => by rw [h1, h2]; exact h⟩
/-- A call: by any contract. -/
theorem sC.ofR {md : Bool} {ops : Array Oper} {K : FEnv → Sto → Prop} {f : FuncId} {caps as : List AV} {d : Option Tmp} {rest : List Oper} {fe : FEnv} {σ : Sto} {R : AV → Sto → Prop} (hen : Enters P f) (hc : ACalls P Γ f (as ++ caps) σ R) (h : ∀ v σ', R v σ' → ARunF P Γ md ops K rest (upd fe d v) σ') :
    sC P Γ md ops K (.fn f caps) as d rest fe σ := ⟨R, hen, hc, h⟩
/-- One round. -/
theorem sC.yield {md : Bool} {ops : Array Oper} {K : FEnv → Sto → Prop} {l : Nat} {as : List AV} {d : Option Tmp} {rest : List Oper} {fe : FEnv} {σ : Sto} {R : Bool → Sto → Prop} (hc : ARound P Γ l as σ R) (h : ∀ b σ', R b σ' → ARunF P Γ md ops K rest (upd fe d (.val (.bool b))) σ') :
    sC P Γ md ops K (.yl l) as d rest fe σ := ⟨R, hc, h⟩
def qR (P : Program) (Γ : List (Nat × List AV)) (md : Bool) (ops : Array Oper) (K : FEnv → Prop) (r : Option (AV × Sto)) (d : Option Tmp) (rest : List Oper) (fe : FEnv) (σ : Sto) : Prop := match r with
  | some (v, σ') => σ' = σ ∧ AQF P Γ md ops σ K rest (upd fe d v)
  | none => False
def qC (P : Program) (Γ : List (Nat × List AV)) (md : Bool) (ops : Array Oper) (K : FEnv → Prop) (x : AV) (as : List AV) (d : Option Tmp) (rest : List Oper) (fe : FEnv) (σ : Sto) : Prop := match x with
  | .fn f caps => ∃ v, Enters P f ∧ ACalls P Γ f (as ++ caps) σ (fun v' σ' => σ' = σ ∧ v' = v) ∧ AQF P Γ md ops σ K rest (upd fe d v)
  | _ => False
def qO (P : Program) (Γ : List (Nat × List AV)) (md : Bool) (ops : Array Oper) (K : FEnv → Prop) (op : Op) (d : Option Tmp) (rest : List Oper) (fe : FEnv) (σ : Sto) : Prop := match op with
  | .call { callee := .value x, args := as, argTypes := _ } => qC P Γ md ops K (opndF Γ fe x) (as.toList.map (opndF Γ fe)) d rest fe σ
  | op => qR P Γ md ops K (aopR P md σ (opndF Γ fe) op) d rest fe σ
def qW (P : Program) (Γ : List (Nat × List AV)) (md : Bool) (ops : Array Oper) (K : FEnv → Prop) (w : Option Bool) (op : Op) (d : Option Tmp) (rest : List Oper) (fe : FEnv) (σ : Sto) : Prop := match w with
  | some false => AQF P Γ md ops σ K rest (upd fe d (.val undef))
  | some true => qO P Γ md ops K op d rest fe σ
  | none => False
theorem qF_nil (md : Bool) (ops : Array Oper) (K : FEnv → Prop) (fe : FEnv) (σ : Sto) : AQF P Γ md ops σ K [] fe = K fe := rfl
theorem qF_cons (md : Bool) (ops : Array Oper) (K : FEnv → Prop) (dd : Option Tmp) (op : Op) (ty : TypeId) (pos : String) (af : Array Edge) (g : Option (Nat × Bool)) (rest : List Oper) (fe : FEnv) (σ : Sto) :
    AQF P Γ md ops σ K (⟨dd, op, ty, pos, af, g⟩ :: rest) fe = qW P Γ md ops K (aWantedF ops fe ⟨dd, op, ty, pos, af, g⟩) op dd rest fe σ := by
  rw [AQF]
  unfold qW qO qC qR
  rfl
theorem qR_some (md : Bool) (ops : Array Oper) (K : FEnv → Prop) (v : AV) (σ : Sto) (d : Option Tmp) (rest : List Oper) (fe : FEnv) : qR P Γ md ops K (some (v, σ)) d rest fe σ = AQF P Γ md ops σ K rest (upd fe d v) := by simp [qR]
theorem qW_tt (md : Bool) (ops : Array Oper) (K : FEnv → Prop) (op : Op) (d : Option Tmp) (rest : List Oper) (fe : FEnv) (σ : Sto) : qW P Γ md ops K (some true) op d rest fe σ = qO P Γ md ops K op d rest fe σ := rfl
theorem qW_ff (md : Bool) (ops : Array Oper) (K : FEnv → Prop) (op : Op) (d : Option Tmp) (rest : List Oper) (fe : FEnv) (σ : Sto) : qW P Γ md ops K (some false) op d rest fe σ = AQF P Γ md ops σ K rest (upd fe d (.val undef)) := rfl
theorem qO_call (md : Bool) (ops : Array Oper) (K : FEnv → Prop) (x : Operand) (as : Array Operand) (ts : Array TypeId) (d : Option Tmp) (rest : List Oper) (fe : FEnv) (σ : Sto) :
    qO P Γ md ops K (.call { callee := .value x, args := as, argTypes := ts }) d rest fe σ = qC P Γ md ops K (opndF Γ fe x) (as.toList.map (opndF Γ fe)) d rest fe σ := rfl
theorem qC.of {md : Bool} {ops : Array Oper} {K : FEnv → Prop} {f : FuncId} {caps as args : List AV} {d : Option Tmp} {rest : List Oper} {fe : FEnv} {σ : Sto} {v : AV} (hen : Enters P f) (hc : ACalls P Γ f args σ (fun v' σ' => σ' = σ ∧ v' = v)) (ha : as ++ caps = args) (h : AQF P Γ md ops σ K rest (upd fe d v)) :
    qC P Γ md ops K (.fn f caps) as d rest fe σ := ⟨_, hen, ha ▸ hc, h⟩
theorem sO_0 (md : Bool) (ops : Array Oper) (K : FEnv → Sto → Prop) (x : Operand) (dd : Option Tmp) (rest : List Oper) (fe : FEnv) (σ : Sto) : sO P Γ md ops K (.move x) dd rest fe σ = sR P Γ md ops K (some (opndF Γ fe x, σ)) dd rest fe := rfl
theorem sO_1 (md : Bool) (ops : Array Oper) (K : FEnv → Sto → Prop) (x : Operand) (dd : Option Tmp) (rest : List Oper) (fe : FEnv) (σ : Sto) : sO P Γ md ops K (.assign x) dd rest fe σ = sR P Γ md ops K (some (opndF Γ fe x, σ)) dd rest fe := rfl
theorem sO_2 (md : Bool) (ops : Array Oper) (K : FEnv → Sto → Prop) (T : TypeId) (dd : Option Tmp) (rest : List Oper) (fe : FEnv) (σ : Sto) : sO P Γ md ops K (.alloc T) dd rest fe σ = sR P Γ md ops K (aAlloc P σ T) dd rest fe := rfl
theorem sO_3 (md : Bool) (ops : Array Oper) (K : FEnv → Sto → Prop) (T : TypeId) (x : Operand) (dd : Option Tmp) (rest : List Oper) (fe : FEnv) (σ : Sto) : sO P Γ md ops K (.box T x) dd rest fe σ = sR P Γ md ops K (aNewVar σ (opndF Γ fe x)) dd rest fe := rfl
theorem sO_4 (md : Bool) (ops : Array Oper) (K : FEnv → Sto → Prop) (T : TypeId) (parts : Array (Nat × Operand)) (dd : Option Tmp) (rest : List Oper) (fe : FEnv) (σ : Sto) : sO P Γ md ops K (.build T parts) dd rest fe σ = sR P Γ md ops K ((aBuild P T (parts.toList.map fun p => (p.1, opndF Γ fe p.2))).map (·, σ)) dd rest fe := rfl
theorem sO_5 (md : Bool) (ops : Array Oper) (K : FEnv → Sto → Prop) (T : TypeId) (n : Nat) (parts : Array (Nat × Operand)) (dd : Option Tmp) (rest : List Oper) (fe : FEnv) (σ : Sto) : sO P Γ md ops K (.buildSlice T n parts) dd rest fe σ = sR P Γ md ops K (aRow P md σ T n (parts.toList.map fun p => (p.1, opndF Γ fe p.2))) dd rest fe := rfl
theorem sO_6 (md : Bool) (ops : Array Oper) (K : FEnv → Sto → Prop) (T : TypeId) (x : Operand) (dd : Option Tmp) (rest : List Oper) (fe : FEnv) (σ : Sto) : sO P Γ md ops K (.load T x) dd rest fe σ = sR P Γ md ops K ((aLoad P σ T (opndF Γ fe x)).map (·, σ)) dd rest fe := rfl
theorem sO_7 (md : Bool) (ops : Array Oper) (K : FEnv → Sto → Prop) (T : TypeId) (a : Operand) (x : Operand) (dd : Option Tmp) (rest : List Oper) (fe : FEnv) (σ : Sto) : sO P Γ md ops K (.store T a x) dd rest fe σ = sR P Γ md ops K ((aStore P σ T (opndF Γ fe x) (opndF Γ fe a)).map (.any, ·)) dd rest fe := rfl
theorem sO_8 (md : Bool) (ops : Array Oper) (K : FEnv → Sto → Prop) (x : Operand) (dd : Option Tmp) (rest : List Oper) (fe : FEnv) (σ : Sto) : sO P Γ md ops K (.nilCheck x) dd rest fe σ = sR P Γ md ops K (aNilC σ (opndF Γ fe x)) dd rest fe := rfl
theorem sO_9 (md : Bool) (ops : Array Oper) (K : FEnv → Sto → Prop) (c : Operand) (a : Operand) (b : Operand) (dd : Option Tmp) (rest : List Oper) (fe : FEnv) (σ : Sto) : sO P Γ md ops K (.pick c a b) dd rest fe σ = sR P Γ md ops K (aPick σ (opndF Γ fe c) (opndF Γ fe a) (opndF Γ fe b)) dd rest fe := rfl
theorem sO_10 (md : Bool) (ops : Array Oper) (K : FEnv → Sto → Prop) (op : BinOp) (T : TypeId) (x : Operand) (y : Operand) (U : TypeId) (dd : Option Tmp) (rest : List Oper) (fe : FEnv) (σ : Sto) : sO P Γ md ops K (.binOp op T x y U) dd rest fe σ = sR P Γ md ops K ((aBin P op T (opndF Γ fe x) (opndF Γ fe y)).map (·, σ)) dd rest fe := rfl
theorem sO_11 (md : Bool) (ops : Array Oper) (K : FEnv → Sto → Prop) (op : UnOp) (T : TypeId) (x : Operand) (dd : Option Tmp) (rest : List Oper) (fe : FEnv) (σ : Sto) : sO P Γ md ops K (.unOp op T x) dd rest fe σ = sR P Γ md ops K ((aUn op (opndF Γ fe x)).map (·, σ)) dd rest fe := rfl
theorem sO_12 (md : Bool) (ops : Array Oper) (K : FEnv → Sto → Prop) (s : TypeId) (d : TypeId) (x : Operand) (dd : Option Tmp) (rest : List Oper) (fe : FEnv) (σ : Sto) : sO P Γ md ops K (.convert s d x) dd rest fe σ = sR P Γ md ops K (aConv P σ s d (opndF Γ fe x)) dd rest fe := rfl
theorem sO_13 (md : Bool) (ops : Array Oper) (K : FEnv → Sto → Prop) (f : FuncId) (caps : Array Operand) (dd : Option Tmp) (rest : List Oper) (fe : FEnv) (σ : Sto) : sO P Γ md ops K (.makeFunc (.func f) #[] caps) dd rest fe σ = sR P Γ md ops K (some (.fn f (caps.toList.map (opndF Γ fe)), σ)) dd rest fe := rfl
theorem sO_14 (md : Bool) (ops : Array Oper) (K : FEnv → Sto → Prop) (T : TypeId) (l : Operand) (c : Operand) (dd : Option Tmp) (rest : List Oper) (fe : FEnv) (σ : Sto) : sO P Γ md ops K (.makeSlice T l c) dd rest fe σ = sR P Γ md ops K (aMakeSlice P σ T (opndF Γ fe l) (opndF Γ fe c)) dd rest fe := rfl
theorem sO_15 (md : Bool) (ops : Array Oper) (K : FEnv → Sto → Prop) (T : TypeId) (x : Operand) (lo : Option Operand) (hi : Option Operand) (dd : Option Tmp) (rest : List Oper) (fe : FEnv) (σ : Sto) : sO P Γ md ops K (.slice T x lo hi none) dd rest fe σ = sR P Γ md ops K ((aSlice P T (opndF Γ fe x) (lo.map (opndF Γ fe)) (hi.map (opndF Γ fe))).map (·, σ)) dd rest fe := rfl
theorem sO_16 (md : Bool) (ops : Array Oper) (K : FEnv → Sto → Prop) (S : TypeId) (x : Operand) (f : Nat) (dd : Option Tmp) (rest : List Oper) (fe : FEnv) (σ : Sto) : sO P Γ md ops K (.fieldAddr S x f) dd rest fe σ = sR P Γ md ops K ((aFieldAddr P S f (opndF Γ fe x)).map (·, σ)) dd rest fe := rfl
theorem sO_17 (md : Bool) (ops : Array Oper) (K : FEnv → Sto → Prop) (S : TypeId) (x : Operand) (f : Nat) (dd : Option Tmp) (rest : List Oper) (fe : FEnv) (σ : Sto) : sO P Γ md ops K (.field S x f) dd rest fe σ = sR P Γ md ops K ((aField P S f (opndF Γ fe x)).map (·, σ)) dd rest fe := rfl
theorem sO_18 (md : Bool) (ops : Array Oper) (K : FEnv → Sto → Prop) (T : TypeId) (x : Operand) (i : Operand) (dd : Option Tmp) (rest : List Oper) (fe : FEnv) (σ : Sto) : sO P Γ md ops K (.indexAddr T x i) dd rest fe σ = sR P Γ md ops K ((aIndexAddr P T (opndF Γ fe x) (opndF Γ fe i)).map (·, σ)) dd rest fe := rfl
theorem sO_19 (md : Bool) (ops : Array Oper) (K : FEnv → Sto → Prop) (T : TypeId) (x : Operand) (i : Operand) (dd : Option Tmp) (rest : List Oper) (fe : FEnv) (σ : Sto) : sO P Γ md ops K (.index T x i) dd rest fe σ = sR P Γ md ops K ((aIndex P T (opndF Γ fe x) (opndF Γ fe i)).map (·, σ)) dd rest fe := rfl
theorem sO_20 (md : Bool) (ops : Array Oper) (K : FEnv → Sto → Prop) (t : Operand) (ix : Nat) (dd : Option Tmp) (rest : List Oper) (fe : FEnv) (σ : Sto) : sO P Γ md ops K (.extract t ix) dd rest fe σ = sR P Γ md ops K ((aExtract ix (opndF Γ fe t)).map (·, σ)) dd rest fe := rfl
theorem sO_21 (md : Bool) (ops : Array Oper) (K : FEnv → Sto → Prop) (b : Builtin) (args : Array Operand) (ts : Array TypeId) (dd : Option Tmp) (rest : List Oper) (fe : FEnv) (σ : Sto) : sO P Γ md ops K (.call { callee := .builtin b, args := args, argTypes := ts }) dd rest fe σ = sR P Γ md ops K (aBuiltin P md σ b ts.toList (args.toList.map (opndF Γ fe))) dd rest fe := rfl
theorem qO_0 (md : Bool) (ops : Array Oper) (K : FEnv → Prop) (x : Operand) (dd : Option Tmp) (rest : List Oper) (fe : FEnv) (σ : Sto) : qO P Γ md ops K (.move x) dd rest fe σ = qR P Γ md ops K (some (opndF Γ fe x, σ)) dd rest fe σ := rfl
theorem qO_1 (md : Bool) (ops : Array Oper) (K : FEnv → Prop) (x : Operand) (dd : Option Tmp) (rest : List Oper) (fe : FEnv) (σ : Sto) : qO P Γ md ops K (.assign x) dd rest fe σ = qR P Γ md ops K (some (opndF Γ fe x, σ)) dd rest fe σ := rfl
theorem qO_2 (md : Bool) (ops : Array Oper) (K : FEnv → Prop) (T : TypeId) (dd : Option Tmp) (rest : List Oper) (fe : FEnv) (σ : Sto) : qO P Γ md ops K (.alloc T) dd rest fe σ = qR P Γ md ops K (aAlloc P σ T) dd rest fe σ := rfl
theorem qO_3 (md : Bool) (ops : Array Oper) (K : FEnv → Prop) (T : TypeId) (x : Operand) (dd : Option Tmp) (rest : List Oper) (fe : FEnv) (σ : Sto) : qO P Γ md ops K (.box T x) dd rest fe σ = qR P Γ md ops K (aNewVar σ (opndF Γ fe x)) dd rest fe σ := rfl
theorem qO_4 (md : Bool) (ops : Array Oper) (K : FEnv → Prop) (T : TypeId) (parts : Array (Nat × Operand)) (dd : Option Tmp) (rest : List Oper) (fe : FEnv) (σ : Sto) : qO P Γ md ops K (.build T parts) dd rest fe σ = qR P Γ md ops K ((aBuild P T (parts.toList.map fun p => (p.1, opndF Γ fe p.2))).map (·, σ)) dd rest fe σ := rfl
theorem qO_5 (md : Bool) (ops : Array Oper) (K : FEnv → Prop) (T : TypeId) (n : Nat) (parts : Array (Nat × Operand)) (dd : Option Tmp) (rest : List Oper) (fe : FEnv) (σ : Sto) : qO P Γ md ops K (.buildSlice T n parts) dd rest fe σ = qR P Γ md ops K (aRow P md σ T n (parts.toList.map fun p => (p.1, opndF Γ fe p.2))) dd rest fe σ := rfl
theorem qO_6 (md : Bool) (ops : Array Oper) (K : FEnv → Prop) (T : TypeId) (x : Operand) (dd : Option Tmp) (rest : List Oper) (fe : FEnv) (σ : Sto) : qO P Γ md ops K (.load T x) dd rest fe σ = qR P Γ md ops K ((aLoad P σ T (opndF Γ fe x)).map (·, σ)) dd rest fe σ := rfl
theorem qO_7 (md : Bool) (ops : Array Oper) (K : FEnv → Prop) (T : TypeId) (a : Operand) (x : Operand) (dd : Option Tmp) (rest : List Oper) (fe : FEnv) (σ : Sto) : qO P Γ md ops K (.store T a x) dd rest fe σ = qR P Γ md ops K ((aStore P σ T (opndF Γ fe x) (opndF Γ fe a)).map (.any, ·)) dd rest fe σ := rfl
theorem qO_8 (md : Bool) (ops : Array Oper) (K : FEnv → Prop) (x : Operand) (dd : Option Tmp) (rest : List Oper) (fe : FEnv) (σ : Sto) : qO P Γ md ops K (.nilCheck x) dd rest fe σ = qR P Γ md ops K (aNilC σ (opndF Γ fe x)) dd rest fe σ := rfl
theorem qO_9 (md : Bool) (ops : Array Oper) (K : FEnv → Prop) (c : Operand) (a : Operand) (b : Operand) (dd : Option Tmp) (rest : List Oper) (fe : FEnv) (σ : Sto) : qO P Γ md ops K (.pick c a b) dd rest fe σ = qR P Γ md ops K (aPick σ (opndF Γ fe c) (opndF Γ fe a) (opndF Γ fe b)) dd rest fe σ := rfl
theorem qO_10 (md : Bool) (ops : Array Oper) (K : FEnv → Prop) (op : BinOp) (T : TypeId) (x : Operand) (y : Operand) (U : TypeId) (dd : Option Tmp) (rest : List Oper) (fe : FEnv) (σ : Sto) : qO P Γ md ops K (.binOp op T x y U) dd rest fe σ = qR P Γ md ops K ((aBin P op T (opndF Γ fe x) (opndF Γ fe y)).map (·, σ)) dd rest fe σ := rfl
theorem qO_11 (md : Bool) (ops : Array Oper) (K : FEnv → Prop) (op : UnOp) (T : TypeId) (x : Operand) (dd : Option Tmp) (rest : List Oper) (fe : FEnv) (σ : Sto) : qO P Γ md ops K (.unOp op T x) dd rest fe σ = qR P Γ md ops K ((aUn op (opndF Γ fe x)).map (·, σ)) dd rest fe σ := rfl
theorem qO_12 (md : Bool) (ops : Array Oper) (K : FEnv → Prop) (s : TypeId) (d : TypeId) (x : Operand) (dd : Option Tmp) (rest : List Oper) (fe : FEnv) (σ : Sto) : qO P Γ md ops K (.convert s d x) dd rest fe σ = qR P Γ md ops K (aConv P σ s d (opndF Γ fe x)) dd rest fe σ := rfl
theorem qO_13 (md : Bool) (ops : Array Oper) (K : FEnv → Prop) (f : FuncId) (caps : Array Operand) (dd : Option Tmp) (rest : List Oper) (fe : FEnv) (σ : Sto) : qO P Γ md ops K (.makeFunc (.func f) #[] caps) dd rest fe σ = qR P Γ md ops K (some (.fn f (caps.toList.map (opndF Γ fe)), σ)) dd rest fe σ := rfl
theorem qO_14 (md : Bool) (ops : Array Oper) (K : FEnv → Prop) (T : TypeId) (l : Operand) (c : Operand) (dd : Option Tmp) (rest : List Oper) (fe : FEnv) (σ : Sto) : qO P Γ md ops K (.makeSlice T l c) dd rest fe σ = qR P Γ md ops K (aMakeSlice P σ T (opndF Γ fe l) (opndF Γ fe c)) dd rest fe σ := rfl
theorem qO_15 (md : Bool) (ops : Array Oper) (K : FEnv → Prop) (T : TypeId) (x : Operand) (lo : Option Operand) (hi : Option Operand) (dd : Option Tmp) (rest : List Oper) (fe : FEnv) (σ : Sto) : qO P Γ md ops K (.slice T x lo hi none) dd rest fe σ = qR P Γ md ops K ((aSlice P T (opndF Γ fe x) (lo.map (opndF Γ fe)) (hi.map (opndF Γ fe))).map (·, σ)) dd rest fe σ := rfl
theorem qO_16 (md : Bool) (ops : Array Oper) (K : FEnv → Prop) (S : TypeId) (x : Operand) (f : Nat) (dd : Option Tmp) (rest : List Oper) (fe : FEnv) (σ : Sto) : qO P Γ md ops K (.fieldAddr S x f) dd rest fe σ = qR P Γ md ops K ((aFieldAddr P S f (opndF Γ fe x)).map (·, σ)) dd rest fe σ := rfl
theorem qO_17 (md : Bool) (ops : Array Oper) (K : FEnv → Prop) (S : TypeId) (x : Operand) (f : Nat) (dd : Option Tmp) (rest : List Oper) (fe : FEnv) (σ : Sto) : qO P Γ md ops K (.field S x f) dd rest fe σ = qR P Γ md ops K ((aField P S f (opndF Γ fe x)).map (·, σ)) dd rest fe σ := rfl
theorem qO_18 (md : Bool) (ops : Array Oper) (K : FEnv → Prop) (T : TypeId) (x : Operand) (i : Operand) (dd : Option Tmp) (rest : List Oper) (fe : FEnv) (σ : Sto) : qO P Γ md ops K (.indexAddr T x i) dd rest fe σ = qR P Γ md ops K ((aIndexAddr P T (opndF Γ fe x) (opndF Γ fe i)).map (·, σ)) dd rest fe σ := rfl
theorem qO_19 (md : Bool) (ops : Array Oper) (K : FEnv → Prop) (T : TypeId) (x : Operand) (i : Operand) (dd : Option Tmp) (rest : List Oper) (fe : FEnv) (σ : Sto) : qO P Γ md ops K (.index T x i) dd rest fe σ = qR P Γ md ops K ((aIndex P T (opndF Γ fe x) (opndF Γ fe i)).map (·, σ)) dd rest fe σ := rfl
theorem qO_20 (md : Bool) (ops : Array Oper) (K : FEnv → Prop) (t : Operand) (ix : Nat) (dd : Option Tmp) (rest : List Oper) (fe : FEnv) (σ : Sto) : qO P Γ md ops K (.extract t ix) dd rest fe σ = qR P Γ md ops K ((aExtract ix (opndF Γ fe t)).map (·, σ)) dd rest fe σ := rfl
theorem qO_21 (md : Bool) (ops : Array Oper) (K : FEnv → Prop) (b : Builtin) (args : Array Operand) (ts : Array TypeId) (dd : Option Tmp) (rest : List Oper) (fe : FEnv) (σ : Sto) : qO P Γ md ops K (.call { callee := .builtin b, args := args, argTypes := ts }) dd rest fe σ = qR P Γ md ops K (aBuiltin P md σ b ts.toList (args.toList.map (opndF Γ fe))) dd rest fe σ := rfl
theorem sO_22 (md : Bool) (ops : Array Oper) (K : FEnv → Sto → Prop) (T : TypeId) (dd : Option Tmp) (rest : List Oper) (fe : FEnv) (σ : Sto) : sO P Γ md ops K (.makeMap T none) dd rest fe σ = sR P Γ md ops K (aMakeMap σ) dd rest fe := rfl
theorem sO_23 (md : Bool) (ops : Array Oper) (K : FEnv → Sto → Prop) (T : TypeId) (x k : Operand) (ok : Bool) (dd : Option Tmp) (rest : List Oper) (fe : FEnv) (σ : Sto) : sO P Γ md ops K (.lookup T x k ok) dd rest fe σ = sR P Γ md ops K ((aLookup P σ T ok (opndF Γ fe x) (opndF Γ fe k)).map (·, σ)) dd rest fe := rfl
theorem sO_24 (md : Bool) (ops : Array Oper) (K : FEnv → Sto → Prop) (T : TypeId) (m k : Operand) (dd : Option Tmp) (rest : List Oper) (fe : FEnv) (σ : Sto) : sO P Γ md ops K (.mapEntry T m k) dd rest fe σ = sR P Γ md ops K (aMapEntry P σ T (opndF Γ fe m) (opndF Γ fe k)) dd rest fe := rfl
theorem sO_25 (md : Bool) (ops : Array Oper) (K : FEnv → Sto → Prop) (T : TypeId) (m s x : Operand) (dd : Option Tmp) (rest : List Oper) (fe : FEnv) (σ : Sto) : sO P Γ md ops K (.entryStore T m s x) dd rest fe σ = sR P Γ md ops K ((aEntryStore σ (opndF Γ fe m) (opndF Γ fe s) (opndF Γ fe x)).map (.any, ·)) dd rest fe := rfl
theorem qO_23 (md : Bool) (ops : Array Oper) (K : FEnv → Prop) (T : TypeId) (x k : Operand) (ok : Bool) (dd : Option Tmp) (rest : List Oper) (fe : FEnv) (σ : Sto) : qO P Γ md ops K (.lookup T x k ok) dd rest fe σ = qR P Γ md ops K ((aLookup P σ T ok (opndF Γ fe x) (opndF Γ fe k)).map (·, σ)) dd rest fe σ := rfl
theorem sO_26 (md : Bool) (ops : Array Oper) (K : FEnv → Sto → Prop) (T : TypeId) (m k x : Operand) (dd : Option Tmp) (rest : List Oper) (fe : FEnv) (σ : Sto) : sO P Γ md ops K (.mapUpdate T m k x) dd rest fe σ = sR P Γ md ops K ((aMapUpd P σ T (opndF Γ fe m) (opndF Γ fe k) (opndF Γ fe x)).map (.any, ·)) dd rest fe := rfl
attribute [go_sem] sO_22 sO_23 sO_24 sO_25 sO_26 qO_23
attribute [go_sem] runF_nil runF_cons sR_some sW_tt sW_ff sO_call qF_nil qF_cons qR_some qW_tt qW_ff qO_call nilC_er nilC_ref nilC_fn pick_tt pick_ff sO_0 sO_1 sO_2 sO_3 sO_4 sO_5 sO_6 sO_7 sO_8 sO_9 sO_10 sO_11 sO_12 sO_13 sO_14 sO_15 sO_16 sO_17 sO_18 sO_19 sO_20 sO_21 qO_0 qO_1 qO_2 qO_3 qO_4 qO_5 qO_6 qO_7 qO_8 qO_9 qO_10 qO_11 qO_12 qO_13 qO_14 qO_15 qO_16 qO_17 qO_18 qO_19 qO_20 qO_21 upd_at upd_none opndF_tmp opndF_const opndF_func opndF_global yieldF_eq yieldFt_some boolOf boolOf_undef beq_some beq_none wantedF_none wantedF_guard
end Go.Proofs.Ev

