import Derived.Test.YtnfimclkiccdhaaDoorPtEvMapU
import Derived.Test.YtnfimclkiccdhaaDoorPtEvConv
/-! One operation, whichever it is (but calls of functions). -/
namespace Go.Proofs.Ev
set_option linter.unusedSimpArgs false
set_option linter.unusedVariables false
open Go
variable {P : Program}

def aPartsOf (Γ : List (Nat × List AV)) (env : List AV) (parts : List (Nat × Operand)) : List (Nat × AV) := parts.map fun p => (p.1, opnd Γ env p.2)
def aMax : AV → AV → Option AV
  | .val (.int k x), .val (.int _ y) => some (.val (.int k (if y > x then y else x)))
  | _, _ => none
def aMin : AV → AV → Option AV
  | .val (.int k x), .val (.int _ y) => some (.val (.int k (if y < x then y else x)))
  | _, _ => none
def aNewVar (σ : List AO) (v : AV) : Option (AV × List AO) := if v.cells.all AV.one = true then some (.ref σ.length 0, σ ++ [.cells v.cells]) else none
def tSize (P : Program) (T : TypeId) : Option Nat := match P.underlying T with
  | some (.slice e) => (P.info? e).map (·.size)
  | _ => none
/-- append, as rows are told here: md: as what may be written, else as frozen rows with the right to append. -/
def aApp (P : Program) (md : Bool) (σ : List AO) (t u : TypeId) (x y : AV) : Option (AV × List AO) :=
  match x with
  | .slo nl sz es k => aAppendO P σ t u nl sz es k y
  | .slf sz es => aAppendF P σ t u sz es y
  | .nilsl => if md then aAppend P σ t u .nilsl y else match tSize P t with
    | some sz => if 0 < sz then aAppendO P (σ ++ [.cap 0 sz]) t u true sz [] σ.length y else none
    | none => none
  | x => aAppend P σ t u x y
def aRow (P : Program) (md : Bool) (σ : List AO) (T : TypeId) (len : Nat) (parts : List (Nat × AV)) : Option (AV × List AO) :=
  if md then aBuildSlice P σ T len parts else if len = 0 then match tSize P T with
    | some sz => if 0 < sz ∧ parts.isEmpty = true then some (.slo false sz [] σ.length, σ ++ [.cap 0 sz]) else none
    | none => none
  else ((aBuildRow P T len parts).map fun u => if bytesT P T = true then u.full else u).map (·, σ)
def aBuiltin (P : Program) (md : Bool) (σ : List AO) (b : Builtin) (ts : List TypeId) (xs : List AV) : Option (AV × List AO) :=
  match b, ts, xs with
  | .len, [t], [x] => (aLen P σ t x).map (·, σ)
  | .append, [t, u], [x, y] => aApp P md σ t u x y
  | .max, _, [x, y] => (aMax x y).map (·, σ)
  | .min, _, [x, y] => (aMin x y).map (·, σ)
  | _, _, _ => none
def aop (P : Program) (Γ : List (Nat × List AV)) (md : Bool) (σ : List AO) (env : List AV) : Op → Option (AV × List AO)
  | .move x | .assign x => some (opnd Γ env x, σ)
  | .pick c a b => match opnd Γ env c with
    | .val (.bool t) => some (if t then opnd Γ env a else opnd Γ env b, σ)
    | _ => none
  | .alloc T => match aZero P T with
    | some v => aNewVar σ v
    | none => none
  | .box _ x => aNewVar σ (opnd Γ env x)
  | .build T parts => (aBuild P T (aPartsOf Γ env parts.toList)).map (·, σ)
  | .buildSlice T len parts => aRow P md σ T len (aPartsOf Γ env parts.toList)
  | .load T x => (aLoad P σ T (opnd Γ env x)).map (·, σ)
  | .store T a x => (aStore P σ T (opnd Γ env x) (opnd Γ env a)).map (.any, ·)
  | .nilCheck x => match opnd Γ env x with
    | .er cs => some (.er cs, σ)
    | .ref o off => some (.ref o off, σ)
    | .fn f caps => some (.fn f caps, σ)
    | _ => none
  | .binOp op T x y _ => (aBin P op T (opnd Γ env x) (opnd Γ env y)).map (·, σ)
  | .unOp op _ x => (aUn op (opnd Γ env x)).map (·, σ)
  | .convert s d x => aConv P σ s d (opnd Γ env x)
  | .makeFunc (.func f) first caps => if first.toList.isEmpty = true then some (.fn f (caps.toList.map (opnd Γ env)), σ) else none
  | .makeSlice T l c => aMakeSlice P σ T (opnd Γ env l) (opnd Γ env c)
  | .slice T x lo hi none => (aSlice P T (opnd Γ env x) (lo.map (opnd Γ env)) (hi.map (opnd Γ env))).map (·, σ)
  | .fieldAddr S x f => (aFieldAddr P S f (opnd Γ env x)).map (·, σ)
  | .field S x f => (aField P S f (opnd Γ env x)).map (·, σ)
  | .indexAddr T x i => (aIndexAddr P T (opnd Γ env x) (opnd Γ env i)).map (·, σ)
  | .index T x i => (aIndex P T (opnd Γ env x) (opnd Γ env i)).map (·, σ)
  | .extract t ix => (aExtract ix (opnd Γ env t)).map (·, σ)
  | .call { callee := .builtin b, args := args, argTypes := ts } => aBuiltin P md σ b ts.toList (args.toList.map (opnd Γ env))
  | .makeMap _ none => aMakeMap σ
  | .lookup T x k ok => (aLookup P σ T ok (opnd Γ env x) (opnd Γ env k)).map (·, σ)
  | .mapEntry T m k => aMapEntry P σ T (opnd Γ env m) (opnd Γ env k)
  | .entryStore _ m s x => (aEntryStore σ (opnd Γ env m) (opnd Γ env s) (opnd Γ env x)).map (.any, ·)
  | .mapUpdate T m k x => (aMapUpd P σ T (opnd Γ env m) (opnd Γ env k) (opnd Γ env x)).map (.any, ·)
  | _ => none

/-- What an operation comes to. -/
def Did (P : Program) (C : Ctx) (a : Act) (o : Oper) (v : AV) (σ' : List AO) : Prop :=
  ∃ (r : Next) (y : Value) (D : Ctx), (execOp a.eval o).run P C.w = .ok r D.w ∧ (r = .value y ∨ (r = .skip ∧ y = undef)) ∧ D.σ = σ' ∧ Ext C D ∧ RelS D ∧ RelV D v y

theorem parts_fst {Γ : List (Nat × List AV)} {env : List AV} (ρ : Operand → Value) (l : List (Nat × Operand)) : (aPartsOf Γ env l).map (·.1) = (l.map fun p => (p.1, ρ p.2)).map (·.1) := by
  simp [aPartsOf]
theorem parts_snd {C : Ctx} {Γ : List (Nat × List AV)} {env : List AV} {a : Act} (hg : RelG C Γ) (he : RelL C env a.tmps.toList) (l : List (Nat × Operand)) :
    RelL C ((aPartsOf Γ env l).map (·.2)) ((l.map fun p => (p.1, a.eval p.2)).map (·.2)) := by
  induction l with
  | nil => trivial
  | cons p l ih => exact ⟨opnd_ok hg he p.2, ih⟩
theorem opnds_ok {C : Ctx} {Γ : List (Nat × List AV)} {env : List AV} {a : Act} (hg : RelG C Γ) (he : RelL C env a.tmps.toList) (l : List Operand) : RelL C (l.map (opnd Γ env)) (l.map a.eval) := by
  induction l with
  | nil => trivial
  | cons p l ih => exact ⟨opnd_ok hg he p, ih⟩

theorem aNewVar_ok {C : Ctx} (hS : RelS C) {T : TypeId} {v r : AV} {x : Value} {σ' : List AO} (hv : RelV C v x) (h : aNewVar C.σ v = some (r, σ')) :
    ∃ (b : Addr) (D : Ctx), (newVar T x).run P C.w = .ok b D.w ∧ D.σ = σ' ∧ Ext C D ∧ RelS D ∧ RelV D r (.pointer (some b)) := by
  unfold aNewVar at h
  split at h <;> try (simp at h; done)
  rename_i h1
  cases h
  obtain ⟨D, k1, k2, k3, k4⟩ := newVar_ok (P := P) (T := T) hS hv h1
  exact ⟨_, D, k1, k2, k3, k4, ⟨.cells v.cells, by rw [k2]; simp, rfl⟩, rfl⟩

theorem of_tSize {T : TypeId} {sz : Nat} (h : tSize P T = some sz) : ∃ e i, P.underlying T = some (.slice e) ∧ P.info? e = some i ∧ i.size = sz := by
  unfold tSize at h
  split at h <;> try (simp at h; done)
  rename_i e hT
  obtain ⟨i, hi, rfl⟩ := Option.map_eq_some_iff.1 h
  exact ⟨e, i, hT, hi, rfl⟩
theorem ghost_slo {C : Ctx} {sz : Nat} (hsz : 0 < sz) (nl : Bool) (A : Option Addr) (hA : A.isNone = nl) (hs : ∀ a, A = some a → a.spot = none) : RelV (C.ghost (.cap 0 sz)) (.slo nl sz [] C.σ.length) (.slice A 0 0) :=
  ⟨0, by simp [Ctx.ghost], Nat.le_refl _, hsz, fun _ => ⟨A, rfl, hA, hs⟩, fun h => absurd rfl h⟩
theorem aApp_ok {C : Ctx} (hS : RelS C) {md : Bool} {tS tX ty : TypeId} {p q v : AV} {x y : Value} {σ' : List AO} (hp : RelV C p x) (hq : RelV C q y) (h : aApp P md C.σ tS tX p q = some (v, σ')) :
    ∃ (z : Value) (D : Ctx), (Builtin.append_ #[tS, tX] ty #[x, y]).run P C.w = .ok z D.w ∧ D.σ = σ' ∧ Ext C D ∧ RelS D ∧ RelV D v z := by
  unfold aApp at h
  split at h
  · exact aAppendO_ok hS hp hq h
  · exact aAppendF_ok hS (ghost_ext C (by simp [AO.lim])) (ghost_rel hS (by simp [AO.lim])) hp hq h
  · split at h
    · exact aAppend_ok hS hp hq h
    · split at h <;> try (simp at h; done)
      rename_i sz hsz
      split at h <;> try (simp at h; done)
      rename_i hpos
      cases hp
      have hg := ghost_ext C (ao := .cap 0 sz) (by simp [AO.lim])
      have hr := ghost_rel hS (ao := .cap 0 sz) (by simp [AO.lim])
      obtain ⟨z, D, k1, k2, k3, k4, k5⟩ := aAppendO_ok (P := P) (ty := ty) (C := C.ghost (.cap 0 sz)) hr (ghost_slo hpos true none rfl (fun _ h => by cases h)) (RelV.mono hg hq) h
      exact ⟨z, D, k1, k2, hg.trans k3, k4, k5⟩
  · exact aAppend_ok hS hp hq h
theorem aRow_ok {C : Ctx} (hS : RelS C) {md : Bool} {T : TypeId} {len : Nat} {ps : List (Nat × AV)} {qs : Array (Nat × Value)} {v : AV} {σ' : List AO} (hi : ps.map (·.1) = qs.toList.map (·.1)) (hr : RelL C (ps.map (·.2)) (qs.toList.map (·.2)))
    (h : aRow P md C.σ T len ps = some (v, σ')) : ∃ (z : Value) (D : Ctx), (Instr.buildSlice T len qs).run P C.w = .ok z D.w ∧ D.σ = σ' ∧ Ext C D ∧ RelS D ∧ RelV D v z := by
  unfold aRow at h
  split at h
  · exact aBuildSlice_ok hS hi hr h
  · split at h
    · rename_i hl
      split at h <;> try (simp at h; done)
      rename_i sz hsz
      split at h <;> try (simp at h; done)
      rename_i hc
      obtain ⟨hpos, hemp⟩ := hc
      cases h
      obtain ⟨e, i, hT, hie, rfl⟩ := of_tSize hsz
      have hq : qs = #[] := by
        have : ps = [] := by simpa using hemp
        subst this
        cases qs with
        | mk l => cases l <;> simp at hi ⊢
      subst hq
      subst hl
      have hl := lay_ext hS (.cells #[] e)
      have hlr := lay_rel hS (.cells #[] e)
      refine ⟨.slice (some ⟨C.w.heap.size, 0, none⟩) 0 0, (C.lay (.cells #[] e)).ghost (.cap 0 i.size), ?_, rfl, hl.trans (ghost_ext _ (by simp [AO.lim])), ghost_rel hlr (by simp [AO.lim]), ?_⟩
      · simp [Instr.buildSlice, run_underlying hT, sizeOf, typeInfo, hie, newRow, Instr.fill, Ctx.lay, Ctx.ghost]
        congr 2
        apply Array.ext <;> simp
      · exact ghost_slo (C := C.lay (.cells #[] e)) hpos false _ rfl (fun a h => by cases h; rfl)
    · obtain ⟨u, hu, e⟩ := Option.map_eq_some_iff.1 h
      cases e
      obtain ⟨w, hw, rfl⟩ := Option.map_eq_some_iff.1 hu
      obtain ⟨z, D, k1, k2, k3, k4, k5⟩ := aBuildRow_ok hS hi hr hw
      refine ⟨z, D, k1, k2, k3, k4, ?_⟩
      split
      · exact k5
      · exact full_rel k5

theorem aop_ok {C : Ctx} {Γ : List (Nat × List AV)} {env : List AV} {a : Act} (hS : RelS C) (hg : RelG C Γ) (he : RelL C env a.tmps.toList) (o : Oper) {v : AV} {σ' : List AO}
    {md : Bool} (h : aop P Γ md C.σ env o.op = some (v, σ')) : Did P C a o v σ' := by
  obtain ⟨dst, op, ty, pos, after, guard⟩ := o
  simp only at h
  have val {s : Sem Value} {y : Value} {D : Ctx} (hr : s.run P C.w = .ok y D.w) (he : execOp a.eval ⟨dst, op, ty, pos, after, guard⟩ = (do pure (.value (← s)))) (k1 : D.σ = σ') (k2 : Ext C D) (k3 : RelS D) (k4 : RelV D v y) : Did P C a ⟨dst, op, ty, pos, after, guard⟩ v σ' :=
    ⟨.value y, y, D, by rw [he]; simp [hr], .inl rfl, k1, k2, k3, k4⟩
  have quiet {s : Sem Value} {y : Value} {q : Option AV} (hq : q.map (·, C.σ) = some (v, σ')) (hk : ∀ u, q = some u → ∃ y, s.run P C.w = .ok y C.w ∧ RelV C u y) (he : execOp a.eval ⟨dst, op, ty, pos, after, guard⟩ = (do pure (.value (← s)))) : Did P C a ⟨dst, op, ty, pos, after, guard⟩ v σ' := by
    obtain ⟨u, hu, e⟩ := Option.map_eq_some_iff.1 hq
    cases e
    obtain ⟨y, k1, k2⟩ := hk _ hu
    exact val k1 he rfl (Ext.refl _) hS k2
  have oo := opnd_ok hg he
  cases op with
  | move x =>
    cases h
    exact ⟨.value (a.eval x), _, C, by simp [execOp], .inl rfl, rfl, Ext.refl _, hS, oo x⟩
  | assign x =>
    cases h
    exact ⟨.value (a.eval x), _, C, by simp [execOp], .inl rfl, rfl, Ext.refl _, hS, oo x⟩
  | pick c x y =>
    simp only [aop] at h
    split at h <;> try (simp at h; done)
    rename_i t ht
    cases h
    have hc := oo c
    rw [ht] at hc
    have hc : a.eval c = .bool t := hc
    refine ⟨.value (if t then a.eval x else a.eval y), _, C, by simp [execOp, hc, asBool], .inl rfl, rfl, Ext.refl _, hS, ?_⟩
    cases t <;> simp [oo]
  | alloc T =>
    simp only [aop, aZero] at h
    split at h <;> try (simp at h; done)
    rename_i z hz
    split at hz <;> try (simp at hz; done)
    rename_i i hi
    obtain ⟨zz, hzz, rfl⟩ := Option.map_eq_some_iff.1 hz
    obtain ⟨b, D, k1, k2, k3, k4, k5⟩ := aNewVar_ok (P := P) (T := T) hS (ofConst_ok C zz) h
    exact val (s := Instr.alloc T true (.tuple #[])) (y := .pointer (some b)) (by simp [Instr.alloc, zeroValue, typeInfo, hi, hzz, k1]) rfl k2 k3 k4 k5
  | box T x =>
    obtain ⟨b, D, k1, k2, k3, k4, k5⟩ := aNewVar_ok (P := P) (T := T) hS (oo x) h
    exact val (s := Instr.box T (a.eval x)) (y := .pointer (some b)) (by simp [Instr.box, k1]) rfl k2 k3 k4 k5
  | build T parts =>
    refine quiet (s := Instr.build T (parts.map fun (i, x) => (i, a.eval x))) (y := undef) h (fun u hu => ?_) rfl
    exact aBuild_ok (by simpa using parts_fst a.eval parts.toList) (by simpa using parts_snd hg he parts.toList) hu
  | buildSlice T len parts =>
    obtain ⟨z, D, k1, k2, k3, k4, k5⟩ := aRow_ok (P := P) hS (qs := parts.map fun (i, x) => (i, a.eval x)) (by simpa using parts_fst a.eval parts.toList) (by simpa using parts_snd hg he parts.toList) h
    exact val k1 rfl k2 k3 k4 k5
  | load T x => exact quiet (y := undef) h (fun u hu => aLoad_ok hS (oo x) hu) rfl
  | store T p x =>
    simp only [aop] at h
    obtain ⟨σ1, hs, e⟩ := Option.map_eq_some_iff.1 h
    cases e
    obtain ⟨D, k1, k2, k3, k4⟩ := aStore_ok (P := P) hS (oo p) (oo x) hs
    exact ⟨.skip, undef, D, by simp [execOp, k1], .inr ⟨rfl, rfl⟩, k2, k3, k4, trivial⟩
  | nilCheck x =>
    simp only [aop] at h
    have hx := oo x
    split at h <;> try (simp at h; done)
    · rename_i cs hc
      cases h
      rw [hc] at hx
      have hx0 := hx
      obtain ⟨b, off, e, _⟩ := hx
      exact ⟨.value (a.eval x), _, C, by simp [execOp, e], .inl rfl, rfl, Ext.refl _, hS, hx0⟩
    · rename_i o off hc
      cases h
      rw [hc] at hx
      have hx0 := hx
      obtain ⟨_, e⟩ := hx
      exact ⟨.value (a.eval x), _, C, by simp [execOp, e], .inl rfl, rfl, Ext.refl _, hS, hx0⟩
    · rename_i f caps hc
      cases h
      rw [hc] at hx
      have hx0 := hx
      obtain ⟨xs, e, _⟩ := hx
      exact ⟨.value (a.eval x), _, C, by simp [execOp, e], .inl rfl, rfl, Ext.refl _, hS, hx0⟩
  | binOp op T x y u =>
    refine quiet (s := do eqGuard op T x y (a.eval x) (a.eval y); binOp op T (a.eval x) (a.eval y)) (y := undef) h (fun w hw => aBin_ok (oo x) (oo y) hw) rfl
  | unOp op u x => exact quiet (y := undef) h (fun u hu => aUn_ok (oo x) hu) rfl
  | convert s d x =>
    obtain ⟨z, D, k1, k2, k3, k4, k5⟩ := aConv_ok hS (oo x) h
    exact val k1 rfl k2 k3 k4 k5
  | makeFunc fn first caps =>
    cases fn with
    | func f =>
      simp only [aop] at h
      split at h <;> try (simp at h; done)
      rename_i hf
      cases h
      have hf : first = #[] := by simpa using hf
      subst hf
      obtain ⟨cl, rfl⟩ : ∃ l : List Operand, caps = l.toArray := ⟨caps.toList, by simp⟩
      refine val (s := Instr.makeFunc (.func f) (#[].map a.eval) (cl.toArray.map a.eval)) (D := C) (y := .func (.func f) #[] (cl.map a.eval).toArray) (by simp [Instr.makeFunc]) rfl rfl (Ext.refl _) hS ⟨_, rfl, opnds_ok hg he _⟩
    | _ => simp [aop] at h
  | makeSlice T l c =>
    obtain ⟨z, D, k1, k2, k3, k4, k5⟩ := aMakeSlice_ok (P := P) hS (oo l) (oo c) h
    exact val k1 rfl k2 k3 k4 k5
  | slice T x lo hi mx =>
    cases mx with
    | some _ => simp [aop] at h
    | none =>
      refine quiet (s := Instr.sliceAt T (a.eval x) (lo.map a.eval) (hi.map a.eval) (none.map a.eval)) (y := undef) h (fun u hu => aSlice_ok (oo x) ?_ ?_ ?_ ?_ hu) rfl
      · intro v hv
        obtain ⟨q, rfl, rfl⟩ := Option.map_eq_some_iff.1 hv
        exact ⟨_, rfl, oo q⟩
      · intro hv
        cases lo <;> simp at hv ⊢
      · intro v hv
        obtain ⟨q, rfl, rfl⟩ := Option.map_eq_some_iff.1 hv
        exact ⟨_, rfl, oo q⟩
      · intro hv
        cases hi <;> simp at hv ⊢
  | fieldAddr S x f => exact quiet (y := undef) h (fun u hu => aFieldAddr_ok (oo x) hu) rfl
  | field S x f => exact quiet (y := undef) h (fun u hu => aField_ok (oo x) hu) rfl
  | indexAddr T x i => exact quiet (y := undef) h (fun u hu => aIndexAddr_ok (oo x) (oo i) hu) rfl
  | index T x i => exact quiet (y := undef) h (fun u hu => aIndex_ok (oo x) (oo i) hu) rfl
  | extract t ix => exact quiet (y := undef) h (fun u hu => aExtract_ok (oo t) hu) rfl
  | call c =>
    obtain ⟨callee, args, ts⟩ := c
    cases callee with
    | builtin b =>
      simp only [aop] at h
      have hl := opnds_ok hg he args.toList
      have hts : ts = ts.toList.toArray := by simp
      have hargs : args = args.toList.toArray := by simp
      generalize ts.toList = tl at h hts
      generalize args.toList = al at h hl hargs
      subst hts
      subst hargs
      unfold aBuiltin at h
      split at h <;> try (simp at h; done)
      · rename_i t x hx
        rw [hx] at hl
        match al, hl with
        | [y], hl =>
          refine quiet (s := Builtin.len_ #[t] ty #[a.eval y]) (y := undef) h (fun u hu => aLen_ok hS hl.1 hu) ?_
          simp [execOp, resolve, invoke, builtin]
      · rename_i t u x y hx
        rw [hx] at hl
        match al, hl with
        | [p, q], hl =>
          obtain ⟨z, D, k1, k2, k3, k4, k5⟩ := aApp_ok (P := P) (ty := ty) hS hl.1 hl.2.1 h
          refine val (s := Builtin.append_ #[t, u] ty #[a.eval p, a.eval q]) k1 ?_ k2 k3 k4 k5
          simp [execOp, resolve, invoke, builtin]
      · rename_i x y hx
        rw [hx] at hl
        match al, hl with
        | [p, q], hl =>
          obtain ⟨u, hu, e⟩ := Option.map_eq_some_iff.1 h
          cases e
          unfold aMax at hu
          split at hu <;> try (simp at hu; done)
          cases hu
          obtain ⟨h1, h2, _⟩ := hl
          have h1 : a.eval p = _ := h1
          have h2 : a.eval q = _ := h2
          refine ⟨.value _, _, C, ?_, .inl rfl, rfl, Ext.refl _, hS, rfl⟩
          simp [execOp, resolve, invoke, builtin, Builtin.max_, Builtin.max2, h1, h2]
      · rename_i x y hx
        rw [hx] at hl
        match al, hl with
        | [p, q], hl =>
          obtain ⟨u, hu, e⟩ := Option.map_eq_some_iff.1 h
          cases e
          unfold aMin at hu
          split at hu <;> try (simp at hu; done)
          cases hu
          obtain ⟨h1, h2, _⟩ := hl
          have h1 : a.eval p = _ := h1
          have h2 : a.eval q = _ := h2
          refine ⟨.value _, _, C, ?_, .inl rfl, rfl, Ext.refl _, hS, rfl⟩
          simp [execOp, resolve, invoke, builtin, Builtin.min_, Builtin.min2, h1, h2]
    | _ => simp [aop] at h
  | makeMap T r =>
    cases r with
    | none =>
      obtain ⟨y, D, k1, k2, k3, k4, k5⟩ := aMakeMap_ok (P := P) (T := T) hS h
      exact val (s := Instr.makeMap T none) k1 rfl k2 k3 k4 k5
    | some r => simp [aop] at h
  | lookup T x k ok => exact quiet (y := undef) h (fun u hu => aLookup_ok hS (oo x) (oo k) hu) rfl
  | mapEntry T m k =>
    obtain ⟨y, D, k1, k2, k3, k4, k5⟩ := aMapEntry_ok (P := P) hS (oo m) (oo k) h
    exact val (s := Instr.mapEntry T (a.eval m) (a.eval k)) k1 rfl k2 k3 k4 k5
  | entryStore T m s x =>
    simp only [aop] at h
    obtain ⟨σ1, hs, e⟩ := Option.map_eq_some_iff.1 h
    cases e
    obtain ⟨D, k1, k2, k3, k4⟩ := aEntryStore_ok (P := P) (T := T) hS (oo m) (oo s) (oo x) hs
    exact ⟨.skip, undef, D, by simp [execOp, k1], .inr ⟨rfl, rfl⟩, k2, k3, k4, trivial⟩
  | mapUpdate T m k x =>
    simp only [aop] at h
    obtain ⟨σ1, hs, e⟩ := Option.map_eq_some_iff.1 h
    cases e
    obtain ⟨D, k1, k2, k3, k4⟩ := aMapUpd_ok (P := P) hS (oo m) (oo k) (oo x) hs
    exact ⟨.skip, undef, D, by simp [execOp, k1], .inr ⟨rfl, rfl⟩, k2, k3, k4, trivial⟩
  | _ => simp [aop] at h
end Go.Proofs.Ev

