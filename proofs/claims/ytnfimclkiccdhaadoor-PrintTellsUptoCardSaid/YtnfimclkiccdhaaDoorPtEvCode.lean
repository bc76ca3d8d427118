import Derived.Test.YtnfimclkiccdhaaDoorPtEvOp
import Derived.Sort.LoopGhostIn
import Derived.OrdersIn
import Derived.RangeFuncRecord
import Derived.RangeFuncCalls
/-! Regions, code, functions. -/
namespace Go.Proofs.Ev
set_option linter.unusedSimpArgs false
set_option linter.unusedVariables false
open Go
/-- Of what make a frame is: a plain one; one that may hold ranges over functions (its marks are identities from n on); a round of the loop l. -/
inductive Fr where
  | plain
  | marks (n : Nat)
  | round (l : Nat)
def Fr.fence : Fr → Fence
  | .round l => Fence.wide.inRound l
  | _ => Fence.wide
theorem fence_fn (F : Fr) (f : FuncId) : F.fence.fn f := by cases F <;> trivial
theorem fence_depth (F : Fr) {X : Prop} (h : F.fence.depth.isSome = true) : X := by cases F <;> cases h
theorem callsF (F : Fr) {n : Nat} {P : Program} {f : FuncId} {args : Array Value} {w : World} {R : Ending → World → Prop} (h : Calls P f args w R) : CallsIn F.fence n P f args w R := by
  cases F with
  | round l => exact CallsIn.inRound l (callsIn_wide.2 h)
  | _ => exact callsIn_wide.2 h
theorem roundF (F : Fr) {n m : Nat} {P : Program} {l f : Nat} {tmps : Array Value} {assign body : Code} {w : World} {R : Ending → World → Prop} (h : RoundIn Fence.wide n P l f tmps assign body w R) : RoundIn F.fence m P l f tmps assign body w R := by
  cases F <;> exact ⟨trivial, fun c cs _ => h.2 c cs (room_wide _)⟩
/-- The calls that a frame has put off. -/
def DOk (F : Fr) (C : Ctx) (ds : List Deferred) : Prop := match F with
  | .marks n => ∃ ms : List Nat, ms.Nodup ∧ ds = ms.map (fun o => { target := .collected (C.φ o), args := #[] }) ∧ ∀ o ∈ ms, n ≤ o ∧ C.σ[o]? = some .dfr ∧ C.w.heap[C.φ o]? = some (.deferred (some []))
  | _ => ds = []
theorem DOk.mono {F : Fr} {C D : Ctx} (h : Ext C D) {ds : List Deferred} (hd : DOk F C ds) : DOk F D ds := by
  cases F with
  | marks n =>
    obtain ⟨ms, h1, rfl, h2⟩ := hd
    refine ⟨ms, h1, List.map_congr_left fun o ho => ?_, fun o ho => ?_⟩
    · obtain ⟨_, k1, _⟩ := h2 o ho
      rw [(h.ids o _ k1 rfl).1]
    · obtain ⟨k0, k1, k2⟩ := h2 o ho
      obtain ⟨g1, g2⟩ := h.dfr o k1
      exact ⟨k0, g1, g2.trans k2⟩
  | _ => exact hd
def Fr.free : Fr → Bool
  | .marks _ => false
  | _ => true
theorem DOk.free {F : Fr} (hF : F.free = true) {C D : Ctx} {ds : List Deferred} (hd : DOk F C ds) : DOk F D ds := by
  cases F with
  | marks n => cases hF
  | _ => exact hd
theorem DOk.nil {F : Fr} {C : Ctx} : DOk F C [] := by
  cases F with
  | marks n => exact ⟨[], List.nodup_nil, rfl, fun _ h => by cases h⟩
  | _ => rfl
variable {F : Fr} {P : Program} {Γ : List (Nat × List AV)}

abbrev Env := List AV
abbrev Sto := List AO
/-- Where a piece of code comes out. -/
def Post (F : Fr) (Γ : List (Nat × List AV)) (C : Ctx) (Q : Exit → Env → Sto → Prop) : Exit → Act → World → Prop := fun e a w =>
  ∃ D env, D.w = w ∧ Ext C D ∧ RelS D ∧ RelG D Γ ∧ RelL D env a.tmps.toList ∧ DOk F D a.defers ∧ Q e env D.σ
/-- A state as it stands. -/
structure Stands (F : Fr) (Γ : List (Nat × List AV)) (C : Ctx) (a : Act) (env : Env) (σ : Sto) : Prop where
  σ : C.σ = σ
  S : RelS C
  G : RelG C Γ
  L : RelL C env a.tmps.toList
  D : DOk F C a.defers
/-- Code, abstractly. -/
def AW (F : Fr) (P : Program) (Γ : List (Nat × List AV)) (c : Code) (env : Env) (σ : Sto) (Q : Exit → Env → Sto → Prop) : Prop :=
  ∀ C a, Stands F Γ C a env σ → c.wpIn F.fence 3 P (Post F Γ C Q) a C.w
/-- A list of operations, abstractly: K is what comes behind them. -/
def AOps (F : Fr) (P : Program) (Γ : List (Nat × List AV)) (ops : Array Oper) (l : List Oper) (env : Env) (σ : Sto) (K : Env → Sto → Prop) : Prop :=
  ∀ C a (Q : Exit → Act → World → Prop), Stands F Γ C a env σ → (∀ e a w, Post F Γ C (fun e env σ => e = .normal ∧ K env σ) e a w → Q e a w) → wpListIn F.fence 3 P ops Q l a C.w
/-- A function, abstractly. -/
def ACalls (P : Program) (Γ : List (Nat × List AV)) (f : FuncId) (args : List AV) (σ : Sto) (R : AV → Sto → Prop) : Prop :=
  ∀ C (xs : List Value), C.σ = σ → RelS C → RelG C Γ → RelL C args xs → Calls P f xs.toArray C.w fun e w' => ∃ D x v, e = .returned x ∧ D.w = w' ∧ Ext C D ∧ RelS D ∧ RelV D v x ∧ R v D.σ

/-- One round of the loop o, abstractly. -/
def ARound (P : Program) (Γ : List (Nat × List AV)) (o : Nat) (args : List AV) (σ : Sto) (R : Bool → Sto → Prop) : Prop :=
  ∀ C (xs : List Value), C.σ = σ → RelS C → RelG C Γ → RelL C args xs → ∃ fn tmps assign body, (Instr.yield (C.φ o) xs.toArray).run P C.w = .ok (.round (C.φ o) fn tmps assign body) C.w ∧
    RoundIn Fence.wide 3 P (C.φ o) fn tmps assign body C.w fun e w' => ∃ D b, e = .returned (.bool b) ∧ D.w = w' ∧ Ext C D ∧ RelS D ∧ R b D.σ
theorem Post.trans {C D : Ctx} {Q : Exit → Env → Sto → Prop} {e : Exit} {a : Act} {w : World} (h : Ext C D) (hp : Post F Γ D Q e a w) : Post F Γ C Q e a w := by
  obtain ⟨E, env, h1, h2, h3⟩ := hp
  exact ⟨E, env, h1, h.trans h2, h3⟩
theorem Post.mono {C : Ctx} {Q Q' : Exit → Env → Sto → Prop} (hq : ∀ e env σ, Q e env σ → Q' e env σ) {e : Exit} {a : Act} {w : World} (hp : Post F Γ C Q e a w) : Post F Γ C Q' e a w := by
  obtain ⟨E, env, h1, h2, h3, h4, h5, h6, h7⟩ := hp
  exact ⟨E, env, h1, h2, h3, h4, h5, h6, hq _ _ _ h7⟩
theorem Stands.post {C : Ctx} {a : Act} {env : Env} {σ : Sto} (h : Stands F Γ C a env σ) {Q : Exit → Env → Sto → Prop} {e : Exit} (hq : Q e env σ) : Post F Γ C Q e a C.w :=
  ⟨C, env, rfl, Ext.refl _, h.S, h.G, h.L, h.D, by rw [h.σ]; exact hq⟩

def aput (env : Env) (d : Option Tmp) (v : AV) : Env := match d with
  | some t => env.set t v
  | none => env
theorem aput_rel {D : Ctx} {env : Env} {a : Act} {d : Option Tmp} {v : AV} {y : Value} (h : RelL D env a.tmps.toList) (hv : RelV D v y) : RelL D (aput env d v) (a.put d y).tmps.toList := by
  cases d with
  | none => exact h
  | some t =>
    simp only [aput, Act.put, Array.toList_setIfInBounds]
    exact relL_set h hv
theorem put_defers (a : Act) (d : Option Tmp) (y : Value) : (a.put d y).defers = a.defers := by cases d <;> rfl

/-- A bool, if it is one; known or not. -/
def aBoolOf : AV → Option (Option Bool)
  | .val (.bool b) => some (some b)
  | .val _ => some none
  | _ => none
def vBool : Value → Option Bool
  | .bool b => some b
  | _ => none
theorem aBoolOf_ok {C : Ctx} {v : AV} {x : Value} {r : Option Bool} (hv : RelV C v x) (h : aBoolOf v = some r) : vBool x = r := by
  cases v with
  | val y =>
    cases hv
    cases x <;> simp only [aBoolOf, Option.some.injEq] at h <;> subst h <;> rfl
  | _ => simp [aBoolOf] at h
def aYield (ops : Array Oper) (env : Env) (j : Nat) : Option (Option Bool) :=
  match (ops[j]?).bind (·.dst) with
  | some t => match env[t]? with
    | some v => aBoolOf v
    | none => none
  | none => none
theorem aYield_ok {C : Ctx} {ops : Array Oper} {env : Env} {a : Act} {j : Nat} {r : Option Bool} (h : RelL C env a.tmps.toList) (hy : aYield ops env j = some r) : yielded ops a.tmps j = r := by
  unfold aYield at hy
  unfold yielded
  split at hy <;> try (simp at hy; done)
  rename_i t ht
  split at hy <;> try (simp at hy; done)
  rename_i v hb
  obtain ⟨x, h1, h2⟩ := relL_get h hb
  rw [Array.getElem?_toList] at h1
  have := aBoolOf_ok h2 hy
  rw [← this, ht]
  simp only [Option.bind_some, h1]
  unfold vBool
  cases x <;> rfl
/-- Is an operation carried out? -/
def aWanted (ops : Array Oper) (env : Env) (o : Oper) : Option Bool :=
  match o.guard with
  | none => some true
  | some (j, want) => (aYield ops env j).map (· == some want)
theorem aWanted_ok {C : Ctx} {ops : Array Oper} {env : Env} {a : Act} {o : Oper} {b : Bool} (h : RelL C env a.tmps.toList) (hy : aWanted ops env o = some b) : Region.wanted o (yielded ops a.tmps) = b := by
  unfold aWanted at hy
  unfold Region.wanted
  split at hy
  · rename_i hg
    rw [hg]
    cases hy
    rfl
  · rename_i j want hg
    rw [hg]
    obtain ⟨r, hb, rfl⟩ := Option.map_eq_some_iff.1 hy
    simp only [aYield_ok h hb]

theorem Stands.did {C D : Ctx} {a : Act} {env : Env} {σ : Sto} (h : Stands F Γ C a env σ) (he : Ext C D) (hS : RelS D) {v : AV} {y : Value} (hv : RelV D v y) (d : Option Tmp) : Stands F Γ D (a.put d y) (aput env d v) D.σ :=
  ⟨rfl, hS, RelG.mono he h.G, aput_rel (RelL.mono he h.L) hv, by rw [put_defers]; exact h.D.mono he⟩

theorem AOps.nil {ops : Array Oper} {env : Env} {σ : Sto} {K : Env → Sto → Prop} (h : K env σ) : AOps F P Γ ops [] env σ K :=
  fun _ _ _ hs hq => hq .normal _ _ (hs.post ⟨rfl, h⟩)
theorem AOps.skip {ops : Array Oper} {o : Oper} {rest : List Oper} {env : Env} {σ : Sto} {K : Env → Sto → Prop} (hw : aWanted ops env o = some false) (h : AOps F P Γ ops rest (aput env o.dst (.val undef)) σ K) : AOps F P Γ ops (o :: rest) env σ K := by
  intro C a Q hs hq
  unfold wpListIn
  rw [if_neg (by rw [aWanted_ok hs.L hw]; simp)]
  refine ⟨fun f _ => fence_fn F f, ?_⟩
  refine h C _ Q ⟨hs.σ, hs.S, hs.G, aput_rel hs.L (show RelV C (.val undef) undef from rfl), by rw [put_defers]; exact hs.D⟩ hq
theorem AOps.op {md : Bool} {ops : Array Oper} {o : Oper} {rest : List Oper} {env : Env} {σ σ' : Sto} {v : AV} {K : Env → Sto → Prop} (hw : aWanted ops env o = some true) (hop : aop P Γ md σ env o.op = some (v, σ'))
    (h : AOps F P Γ ops rest (aput env o.dst v) σ' K) : AOps F P Γ ops (o :: rest) env σ K := by
  intro C a Q hs hq
  unfold wpListIn
  rw [if_pos (by rw [aWanted_ok hs.L hw])]
  obtain ⟨r, y, D, hrun, hr, k1, k2, k3, k4⟩ := aop_ok hs.S hs.G hs.L o (by rw [hs.σ]; exact hop)
  refine ⟨fun f _ => fence_fn F f, ?_⟩
  have hgo : wpListIn F.fence 3 P ops Q rest (a.put o.dst y) D.w :=
    h D _ Q (by have := hs.did k2 k3 k4 o.dst; rw [k1] at this; exact this) (fun e a w hp => hq e a w (hp.trans k2))
  rw [Oper.semAt_eq _ _ _ (fun c e => by rw [e] at hop; simp [aop] at hop), hrun]
  rcases hr with rfl | ⟨rfl, rfl⟩ <;> exact hgo

def Enters (P : Program) (f : FuncId) : Prop := ∀ (args : Array Value) (w : World), (callFunc f args).run P w = .ok (.enter f args) w
theorem enters_of {f : FuncId} {fn : Func} {c : Code} (hf : P.funcs[f]? = some fn) (hname : (fn.name == "runtime.NumGoroutine") = false) (hb : fn.body = some c) : Enters P f := by
  intro args w
  have h1 : fn.name ≠ "runtime.NumGoroutine" := by simpa using hname
  simp [callFunc, hf, h1, hb, mark]
theorem AOps.call {ops : Array Oper} {o : Oper} {rest : List Oper} {env : Env} {σ : Sto} {K : Env → Sto → Prop} {x : Operand} {as : Array Operand} {ts : Array TypeId} {f : FuncId} {caps args : List AV} {R : AV → Sto → Prop}
    (hw : aWanted ops env o = some true) (hop : o.op = .call { callee := .value x, args := as, argTypes := ts }) (hx : opnd Γ env x = .fn f caps) (hargs : as.toList.map (opnd Γ env) ++ caps = args) (hen : Enters P f)
    (hc : ACalls P Γ f args σ R) (h : ∀ v σ', R v σ' → AOps F P Γ ops rest (aput env o.dst v) σ' K) : AOps F P Γ ops (o :: rest) env σ K := by
  intro C a Q hs hq
  unfold wpListIn
  rw [if_pos (by rw [aWanted_ok hs.L hw])]
  refine ⟨fun f _ => fence_fn F f, ?_⟩
  have hxo := opnd_ok hs.G hs.L x
  rw [hx] at hxo
  obtain ⟨cs, he, hcs⟩ := hxo
  have hrun : (execOp a.eval o).run P C.w = .ok (.enter f ((as.toList.map a.eval) ++ cs).toArray) C.w := by
    unfold execOp
    simp [hop, resolve, he, Deferred.ofValue, invoke]
    rw [hen]
    congr 2
    apply Array.ext'
    simp
  rw [Oper.semAt_eq _ _ _ (fun c e => by rw [hop] at e; cases e), hrun]
  have hl : RelL C args ((as.toList.map a.eval) ++ cs) := by
    rw [← hargs]
    exact relL_append (opnds_ok hs.G hs.L as.toList) hcs
  refine ⟨fun h => fence_depth F h, callsF F ((hc C _ hs.σ hs.S hs.G hl).mono ?_)⟩
  rintro e w' ⟨D, y, v, rfl, rfl, k2, k3, k4, k5⟩
  exact h v D.σ k5 D _ Q (hs.did k2 k3 k4 o.dst) (fun e a w hp => hq e a w (hp.trans k2))

theorem AOps.yield {ops : Array Oper} {o : Oper} {rest : List Oper} {env : Env} {σ : Sto} {K : Env → Sto → Prop} {x : Operand} {as : Array Operand} {ts : Array TypeId} {l : Nat} {R : Bool → Sto → Prop}
    (hw : aWanted ops env o = some true) (hop : o.op = .call { callee := .value x, args := as, argTypes := ts }) (hx : opnd Γ env x = .yl l) (hc : ARound P Γ l (as.toList.map (opnd Γ env)) σ R) (h : ∀ b σ', R b σ' → AOps F P Γ ops rest (aput env o.dst (.val (.bool b))) σ' K) : AOps F P Γ ops (o :: rest) env σ K := by
  intro C a Q hs hq
  unfold wpListIn
  rw [if_pos (by rw [aWanted_ok hs.L hw])]
  refine ⟨fun f _ => fence_fn F f, ?_⟩
  have he : a.eval x = yv (C.φ l) := by
    have hxo := opnd_ok hs.G hs.L x
    rw [hx] at hxo
    exact hxo.2
  obtain ⟨fn, tmps, assign, body, hy, hR⟩ := hc C _ hs.σ hs.S hs.G (opnds_ok hs.G hs.L as.toList)
  have hrun : (execOp a.eval o).run P C.w = .ok (.round (C.φ l) fn tmps assign body) C.w := by
    unfold execOp
    simp [hop, resolve, he, yv, Deferred.ofValue, invoke]
    have e : (as.toList.map a.eval).toArray = as.map a.eval := by
      apply Array.ext'
      simp
    rw [e] at hy
    exact hy
  rw [Oper.semAt_eq _ _ _ (fun c e => by rw [hop] at e; cases e), hrun]
  refine ⟨fun h => fence_depth F h, roundF F (hR.mono ?_)⟩
  rintro e w' ⟨D, b, rfl, rfl, k2, k3, k5⟩
  exact h b D.σ k5 D _ Q (hs.did k2 k3 (v := .val (.bool b)) (show RelV D (.val (.bool b)) (.bool b) from rfl) o.dst) (fun e a w hp => hq e a w (hp.trans k2))

theorem AW.region {id : Nat} {l : List Oper} {env : Env} {σ : Sto} {Q : Exit → Env → Sto → Prop} (h : AOps F P Γ l.toArray l env σ (Q .normal)) : AW F P Γ (.region id l.toArray false) env σ Q := by
  intro C a hs
  refine wpIn_region_lit ?_
  refine h C a _ hs fun e a w hp => ?_
  obtain ⟨D, env, k1, k2, k3, k4, k5, k6, rfl, k7⟩ := hp
  exact ⟨D, env, k1, k2, k3, k4, k5, k6, k7⟩
theorem AW.seq {x y : Code} {env : Env} {σ : Sto} {Q : Exit → Env → Sto → Prop} (h : AW F P Γ x env σ (fun e env' σ' => match e with | .normal => AW F P Γ y env' σ' Q | e => Q e env' σ')) : AW F P Γ (.seq x y) env σ Q := by
  intro C a hs
  refine wpIn_seq ?_
  refine wpIn_mono (h C a hs) fun e a w hp => ?_
  obtain ⟨D, env', rfl, k2, k3, k4, k5, k6, k7⟩ := hp
  cases e with
  | normal => exact wpIn_mono (k7 D a ⟨rfl, k3, k4, k5, k6⟩) fun e a w hp => hp.trans k2
  | _ => exact ⟨D, env', rfl, k2, k3, k4, k5, k6, k7⟩
theorem AW.cond {c : Operand} {x y : Code} {env : Env} {σ : Sto} {Q : Exit → Env → Sto → Prop} {b : Bool} (hc : opnd Γ env c = .val (.bool b)) (ht : b = true → AW F P Γ x env σ Q) (hf : b = false → AW F P Γ y env σ Q) : AW F P Γ (.cond c x y) env σ Q := by
  intro C a hs
  have h := opnd_ok hs.G hs.L c
  rw [hc] at h
  exact wpIn_cond_split h (fun e => ht e C a hs) (fun e => hf e C a hs)
theorem AW.skip {env : Env} {σ : Sto} {Q : Exit → Env → Sto → Prop} (h : Q .normal env σ) : AW F P Γ .skip env σ Q := fun _ _ hs => wpIn_skip (hs.post h)
theorem AW.ret {env : Env} {σ : Sto} {Q : Exit → Env → Sto → Prop} (h : Q .ret env σ) : AW F P Γ .ret env σ Q := fun _ _ hs => wpIn_ret (hs.post h)
theorem AW.exit {id : Nat} {env : Env} {σ : Sto} {Q : Exit → Env → Sto → Prop} (h : Q (.exit id) env σ) : AW F P Γ (.exit id) env σ Q := fun _ _ hs => wpIn_exit (hs.post h)
theorem AW.block {id : Nat} {x : Code} {env : Env} {σ : Sto} {Q : Exit → Env → Sto → Prop} (h : AW F P Γ x env σ (fun e env' σ' => match e with | .exit id' => if id' = id then Q .normal env' σ' else Q (.exit id') env' σ' | e => Q e env' σ')) : AW F P Γ (.block id x) env σ Q := by
  intro C a hs
  refine wpIn_block ?_
  refine wpIn_mono (h C a hs) fun e a w hp => ?_
  obtain ⟨D, env', k1, k2, k3, k4, k5, k6, k7⟩ := hp
  cases e with
  | exit id' =>
    simp only [Exit.inBlock]
    split
    · rename_i e
      exact ⟨D, env', k1, k2, k3, k4, k5, k6, by simpa [e] using k7⟩
    · rename_i e
      exact ⟨D, env', k1, k2, k3, k4, k5, k6, by simpa [e] using k7⟩
  | _ => exact ⟨D, env', k1, k2, k3, k4, k5, k6, k7⟩
theorem AW.mono {c : Code} {env : Env} {σ : Sto} {Q Q' : Exit → Env → Sto → Prop} (h : AW F P Γ c env σ Q) (hq : ∀ e env σ, Q e env σ → Q' e env σ) : AW F P Γ c env σ Q' :=
  fun C a hs => wpIn_mono (h C a hs) fun _ _ _ hp => hp.mono hq
theorem ACalls.mono {f : FuncId} {args : List AV} {σ : Sto} {R R' : AV → Sto → Prop} (h : ACalls P Γ f args σ R) (hr : ∀ v σ, R v σ → R' v σ) : ACalls P Γ f args σ R' := by
  intro C xs h1 h2 h3 h4
  refine (h C xs h1 h2 h3 h4).mono ?_
  rintro e w' ⟨D, x, v, k1, k2, k3, k4, k5, k6⟩
  exact ⟨D, x, v, k1, k2, k3, k4, k5, hr _ _ k6⟩


/-- What a function hands back. -/
def aResult (P : Program) (σ : Sto) (env : Env) : ResultVar → Option AV
  | .tmp t => env[t]?
  | .cell t T => aLoad P σ T (env.getD t .any)
def aResults (P : Program) (σ : Sto) (env : Env) : List ResultVar → Option (List AV)
  | [] => some []
  | r :: rs => match aResult P σ env r, aResults P σ env rs with
    | some v, some vs => some (v :: vs)
    | _, _ => none
def aReturn (P : Program) (fn : Func) (σ : Sto) (env : Env) : Option AV := match aResults P σ env fn.results.toList with
  | some [v] => some v
  | some vs => some (.tup vs)
  | none => none
theorem aResults_ok {C : Ctx} (hS : RelS C) {env : Env} {tmps : Array Value} (hl : RelL C env tmps.toList) : ∀ (rs : List ResultVar) (vs : List AV), aResults P C.σ env rs = some vs →
    ∃ ys : List Value, (rs.mapM (fun | .tmp t => pure (tmps.getD t undef) | .cell a t => do loadVar t (← asAddr (tmps.getD a undef)) : ResultVar → Sem Value)).run P C.w = .ok ys C.w ∧ RelL C vs ys
  | [], vs, h => by
    cases h
    exact ⟨[], by simp, trivial⟩
  | r :: rs, vs, h => by
    simp only [aResults] at h
    split at h <;> try (simp at h; done)
    rename_i v vs' hv hvs
    cases h
    obtain ⟨ys, k1, k2⟩ := aResults_ok hS hl rs vs' hvs
    have hone : ∃ y, ((match r with | .tmp t => pure (tmps.getD t undef) | .cell a t => do loadVar t (← asAddr (tmps.getD a undef)) : Sem Value)).run P C.w = .ok y C.w ∧ RelV C v y := by
      cases r with
      | tmp t =>
        obtain ⟨y, h1, h2⟩ := relL_get hl hv
        refine ⟨y, ?_, h2⟩
        rw [Array.getElem?_toList] at h1
        simp [Array.getD_eq_getD_getElem?, h1]
      | cell t T =>
        simp only [aResult] at hv
        have hp : RelV C (env.getD t .any) (tmps.getD t undef) := opnd_ok (Γ := []) (a := ⟨tmps, []⟩) (fun _ h => by cases h) hl (.tmp t)
        have hp' := hp
        obtain ⟨y, h1, h2⟩ := aLoad_ok (P := P) hS hp hv
        refine ⟨y, ?_, h2⟩
        have haddr : ∃ a, tmps.getD t undef = .pointer (some a) := by
          generalize env.getD t .any = q at hp' hv
          cases q with
          | er cs => obtain ⟨b, off, e, _⟩ := hp'; exact ⟨_, e⟩
          | ref o off => obtain ⟨_, e⟩ := hp'; exact ⟨_, e⟩
          | _ => simp [aLoad] at hv
        obtain ⟨a, e⟩ := haddr
        show (do loadVar T (← asAddr (tmps.getD t undef)) : Sem Value).run P C.w = _
        rw [e] at h1 ⊢
        simpa [Instr.loadAt, Instr.sureAddr, asAddr] using h1
    obtain ⟨y, h1, h2⟩ := hone
    refine ⟨y :: ys, ?_, ⟨h2, k2⟩⟩
    simp only [List.mapM_cons, Sem.run_bind, h1, Result.andThen_ok, k1]
    simp
theorem aReturn_ok {C : Ctx} (hS : RelS C) {fn : Func} {env : Env} {tmps : Array Value} (hl : RelL C env tmps.toList) {v : AV} (h : aReturn P fn C.σ env = some v) : ∃ y, (results fn tmps).run P C.w = .ok y C.w ∧ RelV C v y := by
  unfold aReturn at h
  have hrun : ∀ ys : List Value, (fn.results.toList.mapM (fun | .tmp t => pure (tmps.getD t undef) | .cell a t => do loadVar t (← asAddr (tmps.getD a undef)) : ResultVar → Sem Value)).run P C.w = .ok ys C.w →
      (results fn tmps).run P C.w = .ok (if h : ys.toArray.size = 1 then ys.toArray[0] else .tuple ys.toArray) C.w := by
    intro ys hy
    unfold results
    rw [Array.mapM_eq_mapM_toList]
    simp only [Sem.run_bind, Sem.run_map]
    erw [hy]
    simp
  split at h <;> try (simp at h; done)
  · rename_i u hu
    cases h
    obtain ⟨ys, k1, k2⟩ := aResults_ok hS hl _ _ hu
    match ys, k2 with
    | [y], k2 => exact ⟨y, by simpa using hrun _ k1, k2.1⟩
  · rename_i vs hne hvs
    cases h
    obtain ⟨ys, k1, k2⟩ := aResults_ok hS hl _ _ hvs
    refine ⟨.tuple ys.toArray, ?_, ⟨ys, rfl, k2⟩⟩
    have hlen := relL_length k2
    rw [hrun _ k1, dif_neg]
    intro e
    have e : ys.length = 1 := by simpa using e
    match vs, hlen.trans e with
    | [v], _ => exact hne v rfl

/-- A function is its body. -/
theorem ACalls.of {f : FuncId} {fn : Func} {c : Code} {args : List AV} {σ : Sto} {R : AV → Sto → Prop} (hf : P.funcs[f]? = some fn) (hb : fn.body = some c)
    (h : AW .plain P Γ c (args ++ List.replicate (fn.ntmps - args.length) .any) σ (fun e env σ' => (e = .normal ∨ e = .ret) ∧ ∃ v, aReturn P fn σ' env = some v ∧ R v σ')) : ACalls P Γ f args σ R := by
  intro C xs h1 h2 h3 h4
  refine calls_of_wp hf hb ((wpIn_wide (n := 3)).1 ?_)
  have hlen := relL_length h4
  refine wpIn_mono (h C _ ⟨h1, h2, h3, ?_, rfl⟩) ?_
  · simp only [Array.toList_append, Array.toList_replicate, List.size_toArray, ← hlen]
    refine relL_append h4 ?_
    have := relL_any (C := C) (List.replicate (fn.ntmps - args.length) undef)
    simpa using this
  · rintro e a w ⟨D, env, rfl, k2, k3, k4, k5, k6, he, v, k7, k8⟩
    obtain ⟨y, l1, l2⟩ := aReturn_ok k3 k5 k7
    rcases he with rfl | rfl
    · exact ⟨k6, y, l1, D, y, v, rfl, rfl, k2, k3, l2, k8⟩
    · exact ⟨k6, y, l1, D, y, v, rfl, rfl, k2, k3, l2, k8⟩
end Go.Proofs.Ev

