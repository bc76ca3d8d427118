import Derived.Test.YteekpkbmkibacaaREvDraw3
/-! Drawn regions that write: what writes in its order, what only looks around it. -/
namespace Go.Proofs.Ev
set_option linter.unusedSimpArgs false
set_option linter.unusedVariables false
open Go
variable {F : Fr} {P : Program} {Γ : List (Nat × List AV)}

/-- Operations that turn nothing. -/
def quietOp : Op → Bool
  | .move _ | .assign _ | .pick _ _ _ | .build _ _ | .load _ _ | .nilCheck _ | .binOp _ _ _ _ _ | .unOp _ _ _ | .fieldAddr _ _ _ | .field _ _ _ | .indexAddr _ _ _ | .index _ _ _ | .extract _ _ | .lookup _ _ _ _ | .convert _ _ _ => true
  | .buildSlice _ n _ => n != 0
  | .call { callee := .builtin .len, args := _, argTypes := _ } => true
  | _ => false
/-- Operations that do not look at memory. -/
def freeOp : Op → Bool
  | .move _ | .assign _ | .pick _ _ _ | .build _ _ | .nilCheck _ | .binOp _ _ _ _ _ | .unOp _ _ _ | .fieldAddr _ _ _ | .field _ _ _ | .extract _ _ => true
  | _ => false
def loadOp : Op → Bool
  | .load _ _ => true
  | _ => false
def callVal : Op → Bool
  | .call { callee := .value _, args := _, argTypes := _ } => true
  | _ => false
theorem map_st {α : Type} {q : Option α} {σ σ' : Sto} {v : α} (h : q.map (·, σ) = some (v, σ')) : σ' = σ := by
  obtain ⟨u, _, e⟩ := Option.map_eq_some_iff.1 h
  cases e
  rfl
theorem quiet_st {σ σ' : Sto} {env : Env} {op : Op} {v : AV} (hp : quietOp op = true) (h : aop P Γ false σ env op = some (v, σ')) : σ' = σ := by
  cases op <;> try (simp [quietOp] at hp; done)
  case move => simp only [aop, Option.some.injEq, Prod.mk.injEq] at h; exact h.2.symm
  case assign => simp only [aop, Option.some.injEq, Prod.mk.injEq] at h; exact h.2.symm
  case pick c a b =>
    simp only [aop] at h
    split at h <;> simp at h
    exact h.2.symm
  case nilCheck x =>
    simp only [aop] at h
    split at h <;> simp at h <;> exact h.2.symm
  case buildSlice T n parts =>
    simp only [quietOp, bne_iff_ne, ne_eq] at hp
    simp only [aop, aRow, Bool.false_eq_true, if_false, hp] at h
    exact map_st h
  case convert s d x =>
    simp only [aop, aConv] at h
    split at h
    · cases h; rfl
    · split at h <;> exact map_st h
  case call c =>
    obtain ⟨callee, args, ts⟩ := c
    cases callee <;> try (simp [quietOp] at hp; done)
    rename_i b
    cases b <;> try (simp [quietOp] at hp; done)
    simp only [aop, aBuiltin] at h
    split at h <;> try (simp at h; done)
    all_goals first | exact map_st h | (simp_all; done)
  all_goals
    simp only [aop] at h
    exact map_st h
theorem free_any {md : Bool} {σ : Sto} {env : Env} {op : Op} {v : AV} (hp : freeOp op = true) (h : aop P Γ md σ env op = some (v, σ)) (τ : Sto) : aop P Γ md τ env op = some (v, τ) := by
  cases op <;> try (simp [freeOp] at hp; done)
  case move => simp only [aop, Option.some.injEq, Prod.mk.injEq, and_true] at h ⊢; exact h
  case assign => simp only [aop, Option.some.injEq, Prod.mk.injEq, and_true] at h ⊢; exact h
  case pick c a b =>
    simp only [aop] at h ⊢
    split at h <;> simp at h ⊢
    exact h
  case nilCheck x =>
    simp only [aop] at h ⊢
    split at h <;> simp at h ⊢ <;> exact h
  all_goals
    simp only [aop] at h ⊢
    rw [map_snd h]
    rfl
/-- What lives still lives as it lived, but for rights. -/
def Saved (σ σ' : Sto) : Prop := ∀ (o : Nat) (a : AO), σ[o]? = some a → a.isCap = false → σ'[o]? = some a
theorem load_saved {md : Bool} {σ σ' : Sto} {env : Env} {op : Op} {v : AV} (hp : loadOp op = true) (hs : Saved σ σ') (h : aop P Γ md σ env op = some (v, σ)) : aop P Γ md σ' env op = some (v, σ') := by
  cases op <;> try (simp [loadOp] at hp; done)
  rename_i T x
  simp only [aop] at h ⊢
  have h := map_snd h
  have : aLoad P σ' T (opnd Γ env x) = some v := by
    cases hx : opnd Γ env x <;> rw [hx] at h <;> try (simp [aLoad] at h; done)
    · exact h
    · rename_i o off
      simp only [aLoad] at h ⊢
      split at h <;> try (simp at h; done)
      rename_i cs ho
      rw [hs o _ ho rfl]
      exact h
  rw [this]
  rfl
/-- A run of operations, step by step. -/
inductive Tr (P : Program) (Γ : List (Nat × List AV)) (ops : Array Oper) : List Oper → Env → Sto → List AV → List Sto → Env → Sto → Prop
  | nil {x : Env} {σ : Sto} : Tr P Γ ops [] x σ [] [] x σ
  | cons {o : Oper} {l : List Oper} {x y : Env} {σ σ' τ : Sto} {v : AV} {ws : List AV} {ss : List Sto} : aop P Γ false σ x o.op = some (v, σ') → Tr P Γ ops l (aput x o.dst v) σ' ws ss y τ → Tr P Γ ops (o :: l) x σ (v :: ws) (σ :: ss) y τ
theorem want_none {ops : Array Oper} {x : Env} {o : Oper} (h : o.guard = none) : aWanted ops x o = some true := by simp [aWanted, h]
theorem Tr.of {ops : Array Oper} {K : Env → Sto → Prop} : ∀ {l : List Oper} {x : Env} {σ : Sto}, (∀ o ∈ l, o.guard = none ∧ callVal o.op = false) → ARun P Γ false ops K l x σ → ∃ ws ss y τ, Tr P Γ ops l x σ ws ss y τ ∧ K y τ
  | [], x, σ, _, h => ⟨[], [], x, σ, .nil, h⟩
  | o :: l, x, σ, hl, h => by
    obtain ⟨h1, h2⟩ := hl o List.mem_cons_self
    unfold ARun at h
    rw [want_none h1] at h
    simp only at h
    split at h
    · rename_i ho
      rw [ho] at h2
      simp [callVal] at h2
    · split at h
      · rename_i v σ' ha
        obtain ⟨ws, ss, y, τ, k1, k2⟩ := Tr.of (fun o' h' => hl o' (List.mem_cons_of_mem _ h')) h
        exact ⟨v :: ws, σ :: ss, y, τ, .cons ha k1, k2⟩
      · exact h.elim
theorem Tr.lens {ops : Array Oper} {l : List Oper} {x y : Env} {σ τ : Sto} {ws : List AV} {ss : List Sto} (h : Tr P Γ ops l x σ ws ss y τ) : ws.length = l.length ∧ ss.length = l.length := by
  induction h with
  | nil => exact ⟨rfl, rfl⟩
  | cons _ _ ih => exact ⟨by simp [ih.1], by simp [ih.2]⟩
theorem Tr.det {ops : Array Oper} {l l' : List Oper} {x y y' : Env} {σ τ τ' : Sto} {ws ws' : List AV} {ss ss' : List Sto} (h : Tr P Γ ops (l ++ l') x σ ws ss y τ) (k : Tr P Γ ops l x σ ws' ss' y' τ') : (ss ++ [τ])[l.length]? = some τ' := by
  induction k generalizing ws ss with
  | nil =>
    cases h with
    | nil => rfl
    | cons _ _ => rfl
  | cons ha _ ih =>
    cases h with
    | cons hb h2 =>
      rw [ha] at hb
      cases hb
      exact ih h2
/-- What is known at each place. -/
theorem Tr.at {ops : Array Oper} {n : Nat} (hD : ∀ i j, i < n → j < n → j ≠ i → dstOf ops j = none ∨ dstOf ops j ≠ dstOf ops i) {vs : Nat → AV} {env : Env} {l : List Oper} {x y : Env} {σ τ : Sto} {ws : List AV} {ss : List Sto} (h : Tr P Γ ops l x σ ws ss y τ) :
    ∀ (k : Nat), k + l.length = n → (∀ j, j < l.length → ops[k + j]? = l[j]?) → (∀ j, j < l.length → vs (k + j) = ws.getD j .any) → x = envL ops vs (fun j => decide (j < k)) (List.range n) env →
    (∀ i o, k ≤ i → i < n → ops[i]? = some o → ∃ s s', (ss ++ [τ])[i - k]? = some s ∧ (ss ++ [τ])[i - k + 1]? = some s' ∧ aop P Γ false s (envL ops vs (fun j => decide (j < i)) (List.range n) env) o.op = some (vs i, s')) ∧ y = envL ops vs (fun j => decide (j < n)) (List.range n) env ∧ (ss ++ [τ])[0]? = some σ := by
  induction h with
  | nil =>
    intro k hk _ _ hx
    refine ⟨fun i o h1 h2 => by simp at hk; omega, ?_, rfl⟩
    simp only [List.length_nil, Nat.add_zero] at hk
    rw [hx, hk]
  | @cons o l x y σ σ' τ v ws ss ha _ ih =>
    intro k hk hl hv hx
    simp only [List.length_cons] at hk hl hv
    have ho : ops[k]? = some o := by simpa using hl 0 (by omega)
    have hvk : vs k = v := by simpa using hv 0 (by omega)
    have hdk : dstOf ops k = o.dst := by simp [dstOf, ho]
    obtain ⟨r1, r2, r3⟩ := ih (k + 1) (by omega)
      (fun j hj => by have := hl (j + 1) (by omega); simpa [Nat.add_assoc, Nat.add_comm 1 j] using this)
      (fun j hj => by have := hv (j + 1) (by omega); simpa [Nat.add_assoc, Nat.add_comm 1 j] using this)
      (by
        rw [hx, ← hvk, ← hdk]
        refine (envL_set (L := fun j => decide (j < k)) (L' := fun j => decide (j < k + 1)) (by simp) (by simp) _ _ (List.mem_range.2 (by omega)) List.nodup_range (fun j _ hne => ?_) (fun j hj hne => hD k j (by omega) (List.mem_range.1 hj) hne)).symm
        have : (j < k + 1) = (j < k) := by
          apply propext
          constructor <;> intro _ <;> omega
        simp [this])
    refine ⟨fun i o' g1 g2 g3 => ?_, r2, rfl⟩
    rcases Nat.eq_or_lt_of_le g1 with rfl | g1
    · rw [ho] at g3
      cases g3
      refine ⟨σ, σ', by simp, by simpa using r3, ?_⟩
      rw [← hx, hvk]
      exact ha
    · obtain ⟨s, s', q1, q2, q3⟩ := r1 i o' g1 g2 g3
      refine ⟨s, s', ?_, ?_, q3⟩
      · rw [show i - k = (i - (k + 1)) + 1 by omega]
        simpa using q1
      · rw [show i - k + 1 = (i - (k + 1) + 1) + 1 by omega]
        simpa using q2

def isE (ops : Array Oper) (i : Nat) : Bool := match ops[i]? with
  | some o => !quietOp o.op
  | none => false
def mixB (ops : Array Oper) (a : Nat) : Bool :=
  let M := ancL .any ops.toList []
  let R := List.range ops.size
  blockB .any ops 0 ops.size &&
  (R.all fun i => match ops[i]? with
    | some o => o.guard.isNone && !callVal o.op
    | none => false) &&
  (R.all fun e => !isE ops e || R.all fun e' => !isE ops e' || !decide (e < e') || (M.getD e' 0).testBit e) &&
  (R.all fun p => isE ops p || match ops[p]? with
    | some o => freeOp o.op || (R.all fun e => !isE ops e || ((!decide (e < p) || (M.getD p 0).testBit e) && (!decide (p < e) || (M.getD e 0).testBit p))) ||
        (loadOp o.op && decide (p < a) && R.all fun e => !isE ops e || decide (e = a) || (decide (a < e) && (M.getD e 0).testBit p))
    | none => false)
structure MixS (ops : Array Oper) (a : Nat) : Prop where
  blk : BlockS .any ops 0 ops.size
  plain : ∀ (i : Nat) (o : Oper), ops[i]? = some o → o.guard = none ∧ callVal o.op = false
  chain : ∀ e e', e < ops.size → e' < ops.size → isE ops e = true → isE ops e' = true → e < e' → Anc .any ops e' e
  pure : ∀ (p : Nat) (o : Oper), ops[p]? = some o → isE ops p = false → freeOp o.op = true ∨ (∀ e, e < ops.size → isE ops e = true → (e < p → Anc .any ops p e) ∧ (p < e → Anc .any ops e p)) ∨ (loadOp o.op = true ∧ p < a ∧ ∀ e, e < ops.size → isE ops e = true → e = a ∨ (a < e ∧ Anc .any ops e p))
theorem mixB_spec {ops : Array Oper} {a : Nat} (h : mixB ops a = true) : MixS ops a := by
  unfold mixB at h
  simp only [Bool.and_eq_true] at h
  obtain ⟨⟨⟨h1, h2⟩, h3⟩, h4⟩ := h
  have hanc := ancL_spec (dm := .any) (ops := ops) ops.toList [] (by simp) (fun i j hb => by simp at hb)
  refine ⟨blockB_spec h1, fun i o ho => ?_, fun e e' he he' i1 i2 hlt => ?_, fun p o ho hp => ?_⟩
  · have hi := (Array.getElem?_eq_some_iff.1 ho).1
    have := List.all_eq_true.1 h2 i (List.mem_range.2 hi)
    simp only [ho, Bool.and_eq_true, Bool.not_eq_true'] at this
    exact ⟨by simpa using this.1, this.2⟩
  · have := List.all_eq_true.1 h3 e (List.mem_range.2 he)
    simp only [i1, Bool.not_true, Bool.false_or] at this
    have := List.all_eq_true.1 this e' (List.mem_range.2 he')
    simp only [i2, Bool.not_true, Bool.false_or, hlt, decide_true] at this
    exact hanc _ _ this
  · have hi := (Array.getElem?_eq_some_iff.1 ho).1
    have := List.all_eq_true.1 h4 p (List.mem_range.2 hi)
    simp only [hp, Bool.false_or, ho, Bool.or_eq_true, Bool.and_eq_true, decide_eq_true_eq] at this
    rcases this with (h | h) | ⟨⟨h, hpa⟩, h'⟩
    · exact .inl h
    · refine .inr (.inl fun e he hee => ?_)
      have := List.all_eq_true.1 h e (List.mem_range.2 he)
      simp only [hee, Bool.not_true, Bool.false_or, Bool.and_eq_true, Bool.or_eq_true, Bool.not_eq_true', decide_eq_false_iff_not] at this
      exact ⟨fun hlt => hanc _ _ (this.1.resolve_left (fun n => n hlt)), fun hlt => hanc _ _ (this.2.resolve_left (fun n => n hlt))⟩
    · refine .inr (.inr ⟨h, hpa, fun e he hee => ?_⟩)
      have := List.all_eq_true.1 h' e (List.mem_range.2 he)
      simp only [hee, Bool.not_true, Bool.false_or, Bool.or_eq_true, Bool.and_eq_true, decide_eq_true_eq] at this
      rcases this with h | ⟨h, h'⟩
      · exact .inl h
      · exact .inr ⟨h, hanc _ _ h'⟩
theorem run1 {ops : Array Oper} {o : Oper} {e : Env} {st st' : Sto} {v : AV} (hg : o.guard = none) (hc : callVal o.op = false) (h : aop P Γ false st e o.op = some (v, st')) : ARun P Γ false ops (fun e' s' => e' = aput e o.dst v ∧ s' = st') [o] e st := by
  unfold ARun
  rw [want_none hg]
  simp only
  split
  · rename_i ho
    rw [ho] at hc
    simp [callVal] at hc
  · rw [h]
    unfold ARun
    exact ⟨rfl, rfl⟩
theorem nextE (ops : Array Oper) (s : Nat) (hs : s ≤ ops.size) : ∃ u, s ≤ u ∧ u ≤ ops.size ∧ (∀ e, s ≤ e → e < u → isE ops e = false) ∧ (u = ops.size ∨ isE ops u = true) := by
  by_cases h : ∃ i, s ≤ i ∧ i < ops.size ∧ isE ops i = true
  · obtain ⟨i, h1, h2, h3⟩ := h
    obtain ⟨k, k1, k2, k3, k4⟩ := least (L := fun j => !isE ops j) (s := s) (m := ops.size - s) i h1 (by omega) (by simp [h3])
    exact ⟨k, k1, by omega, fun e he hek => by simpa using k4 e he hek, .inr (by simpa using k3)⟩
  · refine ⟨ops.size, hs, Nat.le_refl _, fun e h1 h2 => ?_, .inl rfl⟩
    cases he : isE ops e with
    | false => rfl
    | true => exact absurd ⟨e, h1, h2, he⟩ h
theorem ADraw.mix (a : Nat) {env : Env} {σ : Sto} {K : Env → Sto → Prop} {l : List Oper} (hb : mixB l.toArray a = true) (h : ARun P Γ false l.toArray K l env σ) (h2 : ARun P Γ false l.toArray (fun _ σ' => Saved σ σ') (l.take (a + 1)) env σ) : ADraw F P Γ l.toArray 0 l env σ K := by
  intro C act Q fuel listed hs hsz hL hf hl hd hq
  have hM := mixB_spec hb
  have hB := hM.blk
  have hmem : ∀ o ∈ l, o.guard = none ∧ callVal o.op = false := by
    intro o ho
    obtain ⟨i, hi⟩ := List.getElem?_of_mem ho
    exact hM.plain i o (by simpa using hi)
  obtain ⟨ws, ss, y, τ, htr, hk⟩ := Tr.of hmem h
  obtain ⟨ws', ss', y', τ', htr', hsv⟩ := Tr.of (fun o ho => hmem o (List.mem_of_mem_take ho)) h2
  have hn : l.toArray.size = l.length := by simp
  let n := l.length
  let vs : Nat → AV := fun i => ws.getD i .any
  let R := List.range n
  have hR : List.range' 0 n = R := by simp [R, List.range_eq_range']
  have hdist : ∀ i j, i < n → j < n → j ≠ i → dstOf l.toArray j = none ∨ dstOf l.toArray j ≠ dstOf l.toArray i := fun i j hi hj hne => hB.dist i j (Nat.zero_le _) (by omega) (Nat.zero_le _) (by omega) hne
  have hstart : envL l.toArray vs (fun j => decide (j < 0)) R env = env := by
    have : ∀ (l' : List Nat) (x : Env), envL l.toArray vs (fun j => decide (j < 0)) l' x = x := by
      intro l'
      induction l' with
      | nil => intro x; rfl
      | cons j l' ih =>
        intro x
        simp only [envL, Nat.not_lt_zero, decide_false, Bool.false_eq_true, if_false]
        exact ih x
    exact this _ _
  obtain ⟨hAt, hy, hS0⟩ := htr.at hdist (vs := vs) (env := env) 0 (by simp [n]) (fun j _ => by simp) (fun j _ => by simp [vs]) hstart.symm
  obtain ⟨hwl, hsl⟩ := htr.lens
  let S : Nat → Sto := fun i => (ss ++ [τ]).getD i []
  have hS : ∀ i s, (ss ++ [τ])[i]? = some s → S i = s := fun i s hi => by simp only [S, List.getD_eq_getElem?_getD, hi, Option.getD_some]
  have hS00 : S 0 = σ := hS 0 σ hS0
  have hSn : S n = τ := hS n τ (by rw [List.getElem?_append_right (by omega)]; simp [hsl, n])
  have hop : ∀ i o, l.toArray[i]? = some o → aop P Γ false (S i) (envL l.toArray vs (fun j => decide (j < i)) R env) o.op = some (vs i, S (i + 1)) := by
    intro i o ho
    have hi : i < n := by have := (Array.getElem?_eq_some_iff.1 ho).1; omega
    obtain ⟨s, s', q1, q2, q3⟩ := hAt i o (Nat.zero_le _) hi ho
    rw [Nat.sub_zero] at q1 q2
    rw [hS _ _ q1, hS _ _ q2]
    exact q3
  have hquiet : ∀ i, i < n → isE l.toArray i = false → S (i + 1) = S i := by
    intro i hi he
    have ho : l.toArray[i]? = some l[i] := by simp [hi]
    have hqo : quietOp l[i].op = true := by
      simp only [isE, ho, Bool.not_eq_false'] at he
      exact he
    exact quiet_st hqo (hop i _ ho)
  have hSq : ∀ j i, i ≤ j → j ≤ n → (∀ e, i ≤ e → e < j → isE l.toArray e = false) → S j = S i := by
    intro j
    induction j with
    | zero => intro i hi _ _; rw [show i = 0 by omega]
    | succ j ih =>
      intro i hi hj he
      rcases Nat.eq_or_lt_of_le hi with rfl | hlt
      · rfl
      · rw [hquiet j (by omega) (he j (by omega) (by omega)), ih i (by omega) (by omega) fun e h1 h2 => he e h1 (by omega)]
  have hsv' : a + 1 ≤ n → Saved σ (S (a + 1)) := by
    intro ha
    have h3 : Tr P Γ l.toArray (l.take (a + 1) ++ l.drop (a + 1)) env σ ws ss y τ := by rw [List.take_append_drop]; exact htr
    have := h3.det htr'
    rw [List.length_take, Nat.min_eq_left ha] at this
    rw [hS _ _ this]
    exact hsv
  have main : ∀ (fuel : Nat) (listed : Array Bool) (act : Act) (D : Ctx) (u : Nat), Ext C D → u ≤ n → (∀ e, e < u → isE l.toArray e = true → isL listed e = true) → (∀ e, u ≤ e → e < n → isE l.toArray e = true → isL listed e = false) → (u = n ∨ isE l.toArray u = true) →
      Stands F Γ D act (envL l.toArray vs (isL listed) R env) (S u) → listed.size = l.toArray.size → R.countP (fun i => !isL listed i) ≤ fuel → Down .any l.toArray (isL listed) → wpAnyIn F.fence 3 P .any l.toArray Q fuel listed act D.w := by
    have fin : ∀ (fuel : Nat) (listed : Array Bool) (act : Act) (D : Ctx) (u : Nat), Ext C D → u ≤ n → (∀ e, u ≤ e → e < n → isE l.toArray e = true → isL listed e = false) → (u = n ∨ isE l.toArray u = true) →
        Stands F Γ D act (envL l.toArray vs (isL listed) R env) (S u) → listed.size = l.toArray.size → R.countP (fun i => !isL listed i) = 0 → wpAnyIn F.fence 3 P .any l.toArray Q fuel listed act D.w := by
      intro fuel listed act D u he hun hu2 hu3 hs hsz h0
      have hall : ∀ i ∈ R, isL listed i = true := by
        intro i hi
        have := List.countP_eq_zero.1 h0 i hi
        simpa using this
      have hu : u = n := by
        rcases hu3 with h | h
        · exact h
        · rcases Nat.eq_or_lt_of_le hun with h' | h'
          · exact h'
          · have := hu2 u (Nat.le_refl _) h' h
            rw [hall u (List.mem_range.2 h')] at this
            cases this
      have hE : envL l.toArray vs (isL listed) R env = y := by
        rw [hy]
        refine envL_congr _ _ fun j hj => ?_
        rw [hall j hj]
        have := List.mem_range.1 hj
        simp only [this, decide_true]
      rw [hE, hu, hSn] at hs
      refine wpAnyIn_done ?_ (hq .normal _ _ ((hs.post (Q := fun e env σ => e = .normal ∧ K env σ) ⟨rfl, hk⟩).trans he)) fuel
      rw [List.eq_nil_iff_forall_not_mem]
      intro i hi
      obtain ⟨g1, g2, _⟩ := (mem_ready hsz).1 hi
      rw [hall i (List.mem_range.2 (by omega))] at g2
      cases g2
    intro fuel
    induction fuel with
    | zero =>
      intro listed act D u he hun hu1 hu2 hu3 hs hsz hc hd
      exact fin 0 listed act D u he hun hu2 hu3 hs hsz (by omega)
    | succ f ih =>
      intro listed act D u he hun hu1 hu2 hu3 hs hsz hc hd
      by_cases h0 : R.countP (fun i => !isL listed i) = 0
      · exact fin (f + 1) listed act D u he hun hu2 hu3 hs hsz h0
      · have hex : ∃ i, i ∈ R ∧ isL listed i = false := by
          obtain ⟨i, hi, hi'⟩ := List.countP_pos_iff.1 (Nat.pos_of_ne_zero h0)
          exact ⟨i, hi, by simpa using hi'⟩
        refine ⟨fun hr => ?_, fun i hi => ?_⟩
        · exfalso
          obtain ⟨i, hi, hi'⟩ := hex
          have hi := List.mem_range.1 hi
          obtain ⟨k, k1, k2, k3, k4⟩ := least (L := isL listed) (s := 0) (m := n) i (Nat.zero_le _) (by omega) hi'
          obtain ⟨o, ho, hed⟩ := hB.fit k (Nat.zero_le _) (by omega)
          have hkn := (Array.getElem?_eq_some_iff.1 ho).1
          have : k ∈ Region.ready .any l.toArray listed := (mem_ready hsz).2 ⟨hkn, k3, o, ho, fun e he => k4 e (Nat.zero_le _) (hed e he)⟩
          rw [hr] at this
          cases this
        · obtain ⟨g1, g2, o, ho, g3⟩ := (mem_ready hsz).1 hi
          have hin : i < n := by omega
          have hiR : i ∈ R := List.mem_range.2 hin
          have hisz : i < listed.size := by omega
          have hdst : dstOf l.toArray i = o.dst := by simp only [dstOf, ho]; rfl
          obtain ⟨hg, hcv⟩ := hM.plain i o ho
          have hancL : ∀ j, Anc .any l.toArray i j → isL listed j = true := fun j hj => hd.anc hj (fun o' ho' => by rw [ho] at ho'; cases ho'; exact g3)
          have hancU : ∀ e, Anc .any l.toArray e i → isL listed e = false := by
            intro e he'
            cases hle : isL listed e with
            | false => rfl
            | true =>
              have := hd.anc he' (fun o' ho' e' he'' => hd e o' hle ho' e' he'')
              rw [this] at g2
              cases g2
          have hset : envL l.toArray vs (isL (listed.setIfInBounds i true)) R env = aput (envL l.toArray vs (isL listed) R env) o.dst (vs i) := by
            rw [← hdst]
            exact envL_set g2 (by rw [isL_set hisz]; simp) _ _ hiR List.nodup_range (fun j _ hne => by rw [isL_set hisz]; simp [hne]) (fun j hj hne => hdist i j hin (List.mem_range.1 hj) hne)
          have hag : Agree (o.looksAt l.toArray) (envL l.toArray vs (fun j => decide (j < i)) R env) (envL l.toArray vs (isL listed) R env) := by
            intro t ht
            refine envL_agree _ _ _ rfl rfl fun j hj hdj => ?_
            obtain ⟨q1, q2⟩ := hB.looks i j o t (Nat.zero_le _) (by omega) (Nat.zero_le _) (by have := List.mem_range.1 hj; omega) ho hdj ht
            rw [g3 j q2]
            simp only [q1, decide_true]
          have hopL : aop P Γ false (S i) (envL l.toArray vs (isL listed) R env) o.op = some (vs i, S (i + 1)) := by
            rw [← agree_aop (P := P) (Γ := Γ) (md := false) (σ := S i) (op := o.op) (agree_opnd hag)]
            exact hop i o ho
          have go : ∀ (a' : Act) (E' : Ctx) (u' : Nat), Ext C E' → u' ≤ n → (∀ e, e < u' → isE l.toArray e = true → isL (listed.setIfInBounds i true) e = true) → (∀ e, u' ≤ e → e < n → isE l.toArray e = true → isL (listed.setIfInBounds i true) e = false) → (u' = n ∨ isE l.toArray u' = true) →
              Stands F Γ E' a' (aput (envL l.toArray vs (isL listed) R env) o.dst (vs i)) (S u') → wpAnyIn F.fence 3 P .any l.toArray Q f (listed.setIfInBounds i true) a' E'.w := by
            intro a' E' u' he' hu1' hu2' hu3' hu4' hs'
            refine ih (listed.setIfInBounds i true) a' E' u' he' hu1' hu2' hu3' hu4' (by rw [hset]; exact hs') (by simpa using hsz) ?_ (hd.set hisz (fun o' ho' => by rw [ho] at ho'; cases ho'; exact g3))
            have := count_set (L := isL listed) (L' := isL (listed.setIfInBounds i true)) g2 (by rw [isL_set hisz]; simp) R hiR List.nodup_range (fun j hne => by rw [isL_set hisz]; simp [hne])
            omega
          cases hie : isE l.toArray i with
          | true =>
            have hiu : i = u := by
              rcases Nat.lt_trichotomy i u with h | h | h
              · rw [hu1 i h hie] at g2; cases g2
              · exact h
              · have hue : isE l.toArray u = true := by
                  rcases hu3 with h' | h'
                  · omega
                  · exact h'
                have := hancL u (hM.chain u i (by omega) (by omega) hue hie h)
                rw [hu2 u (Nat.le_refl _) (by omega) hue] at this
                cases this
            obtain ⟨u', n1, n2, n3, n4⟩ := nextE l.toArray (i + 1) (by omega)
            refine step_ok ho (run1 hg hcv (st := S u) (by rw [← hiu]; exact hopL)) hs ?_
            rintro E' a' env' he' hs' ⟨rfl, hσ'⟩
            rw [hσ'] at hs'
            refine go a' E' u' (he.trans he') (by omega) (fun e h1 h2 => ?_) (fun e h1 h2 h3 => ?_) (by rcases n4 with h | h; exact .inl (by omega); exact .inr h) (by rw [hSq u' (i + 1) n1 (by omega) n3]; exact hs')
            · rw [isL_set hisz]
              by_cases hei : e = i
              · simp [hei]
              · by_cases hlt : e < i
                · rw [hu1 e (by omega) h2]; simp
                · rw [n3 e (by omega) h1] at h2; cases h2
            · rw [isL_set hisz, hu2 e (by omega) h2 h3]
              simp
              omega
          | false =>
            have hq0 : S (i + 1) = S i := hquiet i hin hie
            rw [hq0] at hopL
            have hval : aop P Γ false (S u) (envL l.toArray vs (isL listed) R env) o.op = some (vs i, S u) := by
              rcases hM.pure i o ho hie with hfr | hfix | ⟨hld, hpa, hde⟩
              · exact free_any hfr hopL (S u)
              · have : S u = S i := by
                  rcases Nat.le_total u i with hle | hle
                  · refine (hSq i u hle (by omega) fun e h1 h2 => ?_).symm
                    cases hee : isE l.toArray e with
                    | false => rfl
                    | true =>
                      have k1 := hancL e ((hfix e (by omega) hee).1 h2)
                      rw [hu2 e h1 (by omega) hee] at k1
                      cases k1
                  · refine hSq u i hle hun fun e h1 h2 => ?_
                    cases hee : isE l.toArray e with
                    | false => rfl
                    | true =>
                      have hne : e ≠ i := fun h => by rw [h, hie] at hee; cases hee
                      have k1 := hancU e ((hfix e (by omega) hee).2 (by omega))
                      rw [hu1 e h2 hee] at k1
                      cases k1
                rw [this]
                exact hopL
              · have hSi : S i = σ := by
                  rw [← hS00]
                  refine hSq i 0 (Nat.zero_le _) (by omega) fun e _ h2 => ?_
                  cases hee : isE l.toArray e with
                  | false => rfl
                  | true =>
                    rcases hde e (by omega) hee with h | ⟨h, _⟩ <;> omega
                rw [hSi] at hopL
                rcases Nat.le_total u a with hle | hle
                · have : S u = σ := by
                    rw [← hS00]
                    refine hSq u 0 (Nat.zero_le _) hun fun e _ h2 => ?_
                    cases hee : isE l.toArray e with
                    | false => rfl
                    | true =>
                      rcases hde e (by omega) hee with h | ⟨h, _⟩ <;> omega
                  rw [this]
                  exact hopL
                · rcases Nat.eq_or_lt_of_le hle with rfl | hlt
                  · have : S a = σ := by
                      rw [← hS00]
                      refine hSq a 0 (Nat.zero_le _) hun fun e _ h2 => ?_
                      cases hee : isE l.toArray e with
                      | false => rfl
                      | true =>
                        rcases hde e (by omega) hee with h | ⟨h, _⟩ <;> omega
                    rw [this]
                    exact hopL
                  · have : S u = S (a + 1) := by
                      refine hSq u (a + 1) hlt hun fun e h1 h2 => ?_
                      cases hee : isE l.toArray e with
                      | false => rfl
                      | true =>
                        rcases hde e (by omega) hee with h | ⟨_, h⟩
                        · omega
                        · have k1 := hancU e h
                          rw [hu1 e h2 hee] at k1
                          cases k1
                    rw [this]
                    exact load_saved hld (hsv' (by omega)) hopL
            refine step_ok ho (run1 hg hcv hval) hs ?_
            rintro E' a' env' he' hs' ⟨rfl, hσ'⟩
            rw [hσ'] at hs'
            refine go a' E' u (he.trans he') hun (fun e h1 h2 => ?_) (fun e h1 h2 h3 => ?_) hu3 hs'
            · rw [isL_set hisz, hu1 e h1 h2]
              simp
            · rw [isL_set hisz, hu2 e h1 h2 h3]
              have hne : e ≠ i := fun h => by rw [h, hie] at h3; cases h3
              simp [hne]
  obtain ⟨u0, n1, n2, n3, n4⟩ := nextE l.toArray 0 (Nat.zero_le _)
  have hnone : ∀ i, i < n → isL listed i = false := fun i hi => by rw [hL i (by omega)]; simp
  refine main fuel listed act C u0 (Ext.refl _) (by omega) (fun e h1 h2 => ?_) (fun e _ h1 _ => hnone e h1) (by rcases n4 with h | h; exact .inl (by omega); exact .inr h) ?_ hsz ?_ hd
  · rw [n3 e (Nat.zero_le _) h1] at h2
    cases h2
  · have e1 : envL l.toArray vs (isL listed) R env = env := by
      rw [← hstart]
      have e2 : envL l.toArray vs (isL listed) R (envL l.toArray vs (fun j => decide (j < 0)) R env) = envL l.toArray vs (isL listed) R env := by rw [hstart]
      rw [e2]
      refine envL_congr _ _ fun j hj => ?_
      rw [hnone j (List.mem_range.1 hj)]
      simp
    rw [e1, hSq u0 0 (Nat.zero_le _) (by omega) n3, hS00]
    exact hs
  · have : R.countP (fun i => !isL listed i) ≤ n := by
      refine Nat.le_trans List.countP_le_length ?_
      simp [R]
    omega
theorem AW.drawx (hm : P.follows .mixedOrders = true) (a : Nat) {ts : List Nat} {id : Nat} {l : List Oper} {env : Env} {σ : Sto} {Q : Exit → Env → Sto → Prop} (hb : mixB l.toArray a = true) (hk : keepB l env ts = true)
    (h : ARunF P Γ false l.toArray (fun fe' σ' => ∀ env', Wk env' (setAll env ts fe') → Q .normal env' σ') l (fun t => env.getD t .any) σ) (h2 : ARunF P Γ false l.toArray (fun _ σ' => Saved σ σ') (l.take (a + 1)) (fun t => env.getD t .any) σ) : AW F P Γ (.region id l.toArray true) env σ Q := by
  refine AW.draw hm ?_
  refine ADraw.mix a hb ?_ ?_
  · refine ARun.mono ?_ (ARunF.run (keepB_dst hk) (Agr.start env (dstsOf l)) h)
    rintro env' σ' ⟨fe, h1, h2⟩
    exact h1 _ (h2.wk hk)
  · refine ARun.mono ?_ (ARunF.run (keepB_sub hk fun o ho => ⟨o, List.mem_of_mem_take ho, rfl⟩) (Agr.start env (dstsOf l)) h2)
    rintro env' σ' ⟨fe, h1, _⟩
    exact h1
/-- A drawn region that writes. -/
theorem AW.regxl (hm : P.follows .mixedOrders = true) (ts : List Nat) (a : Nat) {id : Nat} {l : List Oper} {y : Code} {env : Env} {σ : Sto} {Q : Exit → Env → Sto → Prop} (hb : mixB l.toArray a = true) (hk : keepB l env ts = true)
    (h2 : ARunF P Γ false l.toArray (fun _ σ' => Saved σ σ') (l.take (a + 1)) (fun t => env.getD t .any) σ)
    (h : ∀ K : List AV → Sto → Prop, (∀ vs σ', AW F P Γ y (setL env ts vs) σ' Q → K vs σ') → ARunF P Γ false l.toArray (fun fe σ' => K (ts.map fe) σ') l (fun t => env.getD t .any) σ) : AW F P Γ (.seq (.region id l.toArray true) y) env σ Q := by
  refine AW.seq (AW.drawx hm a hb hk ?_ h2)
  have := h (fun vs σ' => ∀ fe, vs = ts.map fe → ∀ env', Wk env' (setAll env ts fe) → AW F P Γ y env' σ' Q) (fun vs σ' hy fe e env' hw => AW.weaken hw (by rw [← setL_map, ← e]; exact hy))
  exact ARunF.mono (fun fe' σ' h => h fe' rfl) this
theorem Saved.refl (σ : Sto) : Saved σ σ := fun _ _ h _ => h
theorem Saved.setCap {σ : Sto} {k n sz : Nat} {x : AO} (h : σ[k]? = some (.cap n sz)) : Saved σ (σ.set k x) := by
  intro o b ho hb
  rw [List.getElem?_set]
  split
  · rename_i e
    rw [e, ho] at h
    cases h
    cases hb
  · exact ho
end Go.Proofs.Ev

