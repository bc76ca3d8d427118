import Derived.Test.YteekpkbmkibacaaDoorEvMore
/-! Drawn regions in which two variables begin to live, in whatever order. -/
namespace Go.Proofs.Ev
set_option linter.unusedSimpArgs false
set_option linter.unusedVariables false
open Go
variable {F : Fr} {P : Program} {Γ : List (Nat × List AV)}

def swp (n o : Nat) : Nat := if o = n then n + 1 else if o = n + 1 then n else o
theorem swp_inj {n a b : Nat} (h : swp n a = swp n b) : a = b := by
  unfold swp at h
  split at h <;> split at h <;> (try split at h) <;> (try split at h) <;> omega
theorem swp_lt {n o : Nat} (h : o < n) : swp n o = o := by
  unfold swp
  rw [if_neg (by omega), if_neg (by omega)]
/-- Two objects that are alike change names. -/
def Ctx.swap (C : Ctx) (n : Nat) : Ctx := { C with φ := fun o => C.φ (swp n o) }
theorem swap_get {C : Ctx} {n : Nat} (h : C.σ[n]? = C.σ[n + 1]?) (o : Nat) : C.σ[swp n o]? = C.σ[o]? := by
  unfold swp
  split
  · rename_i e
    rw [e, h]
  · split
    · rename_i e
      rw [e, h]
    · rfl
theorem swap_lim {C : Ctx} {n : Nat} (h : C.σ[n]? = C.σ[n + 1]?) (o : Nat) : (C.swap n).lim o = C.lim (swp n o) := by
  simp only [Ctx.lim, swap_get h]
  rfl
theorem swap_less {C : Ctx} {n : Nat} (h : C.σ[n]? = C.σ[n + 1]?) : Less n C (C.swap n) :=
  .of rfl (fun o ho => ⟨rfl, by show C.φ (swp n o) = C.φ o; rw [swp_lt ho]⟩) (fun o l hl => ⟨swp n o, by rw [← swap_lim h]; exact hl, rfl⟩)
theorem swap_ext {C D : Ctx} (he : Ext C D) {n : Nat} (hn : C.σ.length = n) (h : D.σ[n]? = D.σ[n + 1]?) : Ext C (D.swap n) := {
  size := he.size
  ids := fun o a h1 h2 => by
    obtain ⟨g1, g2⟩ := he.ids o a h1 h2
    refine ⟨?_, g2⟩
    show D.φ (swp n o) = C.φ o
    rw [swp_lt (by rw [← hn]; exact get_lt h1)]
    exact g1
  caps := fun o m sz h1 => by
    obtain ⟨n', g1, g2, g3⟩ := he.caps o m sz h1
    refine ⟨n', g1, g2, fun e => ?_⟩
    show D.φ (swp n o) = C.φ o
    rw [swp_lt (by rw [← hn]; exact get_lt h1)]
    exact g3 e
  fixC := fun b off hb => ⟨(he.fixC b off hb).1, (swap_less h).fixC (he.fixC b off hb).2⟩
  fixB := fun b hb => ⟨(he.fixB b hb).1, (swap_less h).fixB (he.fixB b hb).2⟩
  shape := he.shape
  dfr := fun o ho => by
    obtain ⟨g1, g2⟩ := he.dfr o ho
    refine ⟨g1, ?_⟩
    show D.w.heap[D.φ (swp n o)]? = _
    rw [swp_lt (by rw [← hn]; exact get_lt ho)]
    exact g2
  fresh := fun o ho => by
    have ho' : D.σ[o]? = some .dfr := ho
    by_cases hlt : o < n
    · have : (D.swap n).φ o = D.φ o := by
        show D.φ (swp n o) = _
        rw [swp_lt hlt]
      rw [this]
      exact he.fresh o ho'
    · rcases he.fresh (swp n o) (by rw [swap_get h]; exact ho') with h1 | h1
      · exfalso
        have h2 := get_lt h1
        have : ¬ swp n o < n := by
          unfold swp
          split
          · omega
          · split <;> omega
        omega
      · exact .inr h1
  os := he.os
  tape := he.tape
  output := he.output }
theorem swap_rel {D : Ctx} (hS : RelS D) {n : Nat} (h : D.σ[n]? = D.σ[n + 1]?) (hb : ∀ (i : Nat) (a : AO), D.σ[i]? = some a → a.bel n = true) : RelS (D.swap n) := by
  refine RelS.of (fun o a ho => ?_) (fun a b ha hb' e => ?_)
  · have ho' : D.σ[o]? = some a := ho
    have hg := hS.good (o := swp n o) (a := a) (by rw [swap_get h]; exact ho')
    have hbl := hb o a ho'
    cases a with
    | dead => trivial
    | cells cs =>
      obtain ⟨arr, T, h1, h2, h3, h4⟩ := hg
      exact ⟨arr, T, h1, h2, RelL.keep (swap_less h) hbl h3, h4⟩
    | map ks vs =>
      obtain ⟨es, clock, h1, h2, h3⟩ := hg
      exact ⟨es, clock, h1, h2, RelL.keep (swap_less h) hbl h3⟩
    | cap m sz => exact hg
    | dfr => exact hg
    | loop r env => exact ⟨hg.1, RelL.keep (swap_less h) hbl hg.2⟩
  · rw [swap_lim h] at ha hb'
    exact swp_inj (hS.inj _ _ ha hb' e)
theorem DOk.swap {E : Ctx} {n : Nat} (h : E.σ[n]? = E.σ[n + 1]?) (h1 : E.σ[n]? ≠ some .dfr) {ds : List Deferred} (hd : DOk F E ds) : DOk F (E.swap n) ds := by
  cases F with
  | marks m =>
    obtain ⟨ms, k1, rfl, k2⟩ := hd
    have hs : ∀ o ∈ ms, swp n o = o := fun o ho => by
      obtain ⟨_, k, _⟩ := k2 o ho
      have e1 : o ≠ n := fun e => by rw [e] at k; exact h1 k
      have e2 : o ≠ n + 1 := fun e => by rw [e, ← h] at k; exact h1 k
      simp [swp, e1, e2]
    refine ⟨ms, k1, List.map_congr_left fun o ho => ?_, fun o ho => ?_⟩
    · show _ = ({ target := .collected (E.φ (swp n o)), args := #[] } : Deferred)
      rw [hs o ho]
    · obtain ⟨a, b, c⟩ := k2 o ho
      exact ⟨a, b, by show E.w.heap[E.φ (swp n o)]? = _; rw [hs o ho]; exact c⟩
  | _ => exact hd
theorem relL_via {C D : Ctx} : ∀ {cs cs' : List AV} {xs : List Value}, cs'.length = cs.length → RelL C cs xs → (∀ (i : Nat) c c' x, cs[i]? = some c → cs'[i]? = some c' → RelV C c x → RelV D c' x) → RelL D cs' xs
  | [], [], [], _, _, _ => trivial
  | c :: cs, c' :: cs', x :: xs, hl, h, hk => ⟨hk 0 c c' x rfl rfl h.1, relL_via (by simpa using hl) h.2 fun i a b y h1 h2 => hk (i + 1) a b y (by simpa using h1) (by simpa using h2)⟩
  | [], _ :: _, _, hl, _, _ => by simp at hl
  | _ :: _, [], _, hl, _, _ => by simp at hl
  | _ :: _, _ :: _, [], _, h, _ => h.elim
  | [], [], _ :: _, _, h, _ => h.elim
/-- Operations that only look. -/
def plainOp : Op → Bool
  | .move _ | .assign _ | .load _ _ | .fieldAddr _ _ _ | .indexAddr _ _ _ | .binOp _ _ _ _ _ | .unOp _ _ _ | .pick _ _ _ | .field _ _ _ => true
  | _ => false
theorem aLoad_frame {σ : Sto} {T : TypeId} {p v : AV} (τ : Sto) (h : aLoad P σ T p = some v) : aLoad P (σ ++ τ) T p = some v := by
  cases p with
  | ref o off =>
    simp only [aLoad] at h ⊢
    cases ho : σ[o]? with
    | none => simp [ho] at h
    | some a =>
      rw [List.getElem?_append_left (get_lt ho), ho]
      rw [ho] at h
      exact h
  | _ => exact h
theorem map_snd {α β : Type} {q : Option α} {v : α} {s : β} (h : q.map (·, s) = some (v, s)) : q = some v := by
  obtain ⟨u, hu, e⟩ := Option.map_eq_some_iff.1 h
  cases e
  exact hu
theorem aop_frame {md : Bool} {σ : Sto} {env : Env} {op : Op} {v : AV} (hp : plainOp op = true) (τ : Sto) (h : aop P Γ md σ env op = some (v, σ)) : aop P Γ md (σ ++ τ) env op = some (v, σ ++ τ) := by
  cases op <;> simp [plainOp] at hp
  case move => simp only [aop, Option.some.injEq, Prod.mk.injEq, and_true] at h ⊢; exact h
  case assign => simp only [aop, Option.some.injEq, Prod.mk.injEq, and_true] at h ⊢; exact h
  case load T x => simp only [aop] at h ⊢; rw [aLoad_frame τ (map_snd h)]; rfl
  case pick c a b =>
    simp only [aop] at h ⊢
    split at h <;> simp at h ⊢
    exact h
  all_goals
    simp only [aop] at h ⊢
    rw [map_snd h]
    rfl
theorem Q1.frame {md : Bool} {ops : Array Oper} {σ : Sto} {o : Oper} {env : Env} {v : AV} (hp : plainOp o.op = true) (τ : Sto) (h : Q1 P Γ md ops σ o env v) : Q1 P Γ md ops (σ ++ τ) o env v := by
  unfold Q1 at h ⊢
  split at h
  · exact h
  · split at h
    · rename_i ho
      rw [ho] at hp
      simp [plainOp] at hp
    · exact aop_frame hp τ h
  · exact h
theorem undef_bel (n : Nat) : (AV.val undef).bel n = true := rfl
theorem Q1.bel {md : Bool} {ops : Array Oper} {σ : Sto} {o : Oper} {env : Env} {v : AV} (hp : plainOp o.op = true) (h : Q1 P Γ md ops σ o env v) {C : Ctx} {a : Act} (hs : Stands F Γ C a env σ) : v.bel σ.length = true ∧ ∃ C' a', Stands F Γ C' a' (aput env o.dst v) σ := by
  unfold Q1 at h
  split at h
  · subst h
    exact ⟨rfl, C, a.put o.dst undef, hs.σ, hs.S, hs.G, aput_rel hs.L (show RelV C (.val undef) undef from rfl), by rw [put_defers]; exact hs.D⟩
  · split at h
    · rename_i ho
      rw [ho] at hp
      simp [plainOp] at hp
    · have hσ := hs.σ
      subst hσ
      obtain ⟨r, y, D, _, _, k1, k2, k3, k4⟩ := aop_ok hs.S hs.G hs.L o h
      refine ⟨by rw [← k1]; exact RelV.bel k4, D, a.put o.dst y, ?_⟩
      have := hs.did k2 k3 k4 o.dst
      rwa [k1] at this
  · exact h.elim
theorem Ch.bel {md : Bool} {ops : Array Oper} {σ : Sto} : ∀ {l : List Oper} {x : Env} {ws : List AV} {y : Env}, (∀ o ∈ l, plainOp o.op = true) → Ch P Γ md ops σ l x ws y → ∀ {C : Ctx} {a : Act}, Stands F Γ C a x σ → ∀ i, i < l.length → (ws.getD i .any).bel σ.length = true
  | [], _, _, _, _, _, _, _, _ => fun i hi => by simp at hi
  | o :: l, x, v :: ws, y, hp, h, C, a, hs => by
    obtain ⟨h1, h2⟩ := h
    obtain ⟨g1, C', a', g2⟩ := h1.bel (hp o List.mem_cons_self) hs
    intro i hi
    cases i with
    | zero => exact g1
    | succ i => exact Ch.bel (fun o' h' => hp o' (List.mem_cons_of_mem _ h')) h2 g2 i (by simpa using hi)
  | _ :: _, _, [], _, _, h, _, _, _ => h.elim
/-- A place of an operation that lets a variable begin, taken by one that does nothing. -/
def noAlloc (o : Oper) : Oper := match o.op with
  | .alloc _ => { o with op := .move (.const undef) }
  | _ => o
theorem noAlloc_dst (o : Oper) : (noAlloc o).dst = o.dst := by unfold noAlloc; split <;> rfl
theorem noAlloc_after (o : Oper) : (noAlloc o).after = o.after := by unfold noAlloc; split <;> rfl
theorem noAlloc_guard (o : Oper) : (noAlloc o).guard = o.guard := by unfold noAlloc; split <;> rfl
theorem noAlloc_plain {o : Oper} (h : plainOp o.op = true) : noAlloc o = o := by
  unfold noAlloc
  split
  · rename_i ho
    rw [ho] at h
    simp [plainOp] at h
  · rfl
theorem noAlloc_dstOf (ops : Array Oper) (i : Nat) : dstOf (ops.map noAlloc) i = dstOf ops i := by
  simp only [dstOf, Array.getElem?_map]
  cases ops[i]? with
  | none => rfl
  | some o => exact noAlloc_dst o
theorem noAlloc_wanted (ops : Array Oper) (env : Env) (o : Oper) : aWanted (ops.map noAlloc) env o = aWanted ops env o := by
  have : ∀ j, aYield (ops.map noAlloc) env j = aYield ops env j := by
    intro j
    have e : ((ops.map noAlloc)[j]?).bind (·.dst) = (ops[j]?).bind (·.dst) := noAlloc_dstOf ops j
    unfold aYield
    rw [e]
  unfold aWanted
  simp only [this]
theorem noAlloc_Q1 {md : Bool} {ops : Array Oper} {σ : Sto} {o : Oper} {env : Env} {v : AV} (h : Q1 P Γ md (ops.map noAlloc) σ o env v) : Q1 P Γ md ops σ o env v := by
  unfold Q1 at h ⊢
  rwa [noAlloc_wanted] at h
theorem envL_dst {ops ops' : Array Oper} (hd : ∀ i, dstOf ops' i = dstOf ops i) {vs : Nat → AV} {L : Nat → Bool} : ∀ (l : List Nat) (x : Env), envL ops' vs L l x = envL ops vs L l x
  | [], _ => rfl
  | i :: l, x => by
    simp only [envL, hd]
    exact envL_dst hd l _
theorem envL_congr2 {ops : Array Oper} {vs vs' : Nat → AV} {L L' : Nat → Bool} : ∀ (l : List Nat) (x : Env), (∀ j ∈ l, L j = L' j ∧ (L' j = true → vs j = vs' j)) → envL ops vs L l x = envL ops vs' L' l x
  | [], _, _ => rfl
  | j :: l, x, h => by
    obtain ⟨h1, h2⟩ := h j List.mem_cons_self
    simp only [envL]
    rw [h1]
    have : (if L' j = true then aput x (dstOf ops j) (vs j) else x) = (if L' j = true then aput x (dstOf ops j) (vs' j) else x) := by
      split
      · rename_i hL
        rw [h2 hL]
      · rfl
    rw [this]
    exact envL_congr2 l _ fun k hk => h k (List.mem_cons_of_mem _ hk)
theorem envL_at {ops : Array Oper} {vs vs' : Nat → AV} {L L' : Nat → Bool} {t : Tmp} : ∀ (l : List Nat) (x y : Env), x[t]? = y[t]? → x.length = y.length → (∀ i ∈ l, dstOf ops i = some t → L i = L' i ∧ (L' i = true → vs i = vs' i)) → (envL ops vs L l x)[t]? = (envL ops vs' L' l y)[t]?
  | [], _, _, h, _, _ => h
  | i :: l, x, y, h, hl, ha => by
    refine envL_at l _ _ ?_ ?_ (fun j hj => ha j (List.mem_cons_of_mem _ hj))
    · cases hd : dstOf ops i with
      | none => simp only [aput, ite_self]; exact h
      | some d =>
        by_cases hdt : d = t
        · subst hdt
          obtain ⟨h1, h2⟩ := ha i List.mem_cons_self hd
          rw [h1]
          split
          · rename_i hL
            rw [h2 hL]
            simp only [aput, List.getElem?_set]; rw [hl, h]
          · exact h
        · have e1 : ∀ (z : Env) (v : AV), (aput z (some d) v)[t]? = z[t]? := fun z v => by simp [aput, List.getElem?_set, hdt]
          split <;> split <;> simp [e1, h]
    · split <;> split <;> simp [aput_length, hl]
theorem envL_length {ops : Array Oper} {vs : Nat → AV} {L : Nat → Bool} : ∀ (l : List Nat) (x : Env), (envL ops vs L l x).length = x.length
  | [], _ => rfl
  | i :: l, x => by
    simp only [envL]
    rw [envL_length l]
    split
    · exact aput_length _ _ _
    · rfl
theorem envL_all {ops : Array Oper} {vs : Nat → AV} {L : Nat → Bool} {p : AV → Prop} : ∀ (l : List Nat) (x : Env), (∀ v ∈ x, p v) → (∀ i ∈ l, p (vs i)) → ∀ v ∈ envL ops vs L l x, p v
  | [], _, h, _ => h
  | i :: l, x, h, hv => by
    simp only [envL]
    refine envL_all l _ ?_ fun j hj => hv j (List.mem_cons_of_mem _ hj)
    split
    · intro v hm
      cases hd : dstOf ops i with
      | none => rw [hd] at hm; exact h v hm
      | some t =>
        rw [hd] at hm
        rcases List.mem_or_eq_of_mem_set hm with e | e
        · exact h v e
        · rw [e]; exact hv i List.mem_cons_self
    · exact h

def allocB (ops : Array Oper) (s m a1 a2 t1 t2 : Nat) : Bool := (List.range' s m).all fun i => decide (i = a1) || decide (i = a2) || match ops[i]? with
  | some o => plainOp o.op && !(o.looksAt ops).contains t1 && !(o.looksAt ops).contains t2
  | none => false
/-- What stands at the two places. -/
def vL (vs : Nat → AV) (n a1 a2 : Nat) (L : Nat → Bool) (i : Nat) : AV := if i = a1 then .ref n 0 else if i = a2 then .ref (if L a1 then n + 1 else n) 0 else vs i
def zL (zs w : List AV) (a1 a2 st : Nat) (L : Nat → Bool) : Sto := (if L a1 then [.cells (if L st then w else zs)] else []) ++ (if L a2 then [.cells zs] else [])
theorem store_two {σ σ' : Sto} {T : TypeId} {v p : AV} {zs : List AV} {e : Env} {t : Nat} (hp : p = e.getD t .any) (he : ∀ q, e[t]? = some q → q = .ref σ.length 0) (h : aStore P (σ ++ [.cells zs, .cells zs]) T v p = some σ') : ∃ w, σ' = σ ++ [.cells w, .cells zs] := by
  have hq : p = .ref σ.length 0 := by
    rw [List.getD_eq_getElem?_getD] at hp
    cases ht : e[t]? with
    | none =>
      rw [ht] at hp
      rw [hp] at h
      simp [aStore] at h
    | some q =>
      rw [ht] at hp
      rw [hp]
      exact he q ht
  rw [hq] at h
  simp only [aStore] at h
  rw [List.getElem?_append_right (Nat.le_refl _)] at h
  simp only [Nat.sub_self, List.getElem?_cons_zero] at h
  split at h <;> try (simp at h; done)
  cases h
  exact ⟨aSplice zs 0 v.cells, by rw [List.set_append_right _ _ (Nat.le_refl _)]; simp⟩
theorem alloc_run {md : Bool} {ops : Array Oper} {o : Oper} {T : TypeId} {t : Tmp} {zs : List AV} {e : Env} {st : Sto} (ho : o.op = .alloc T) (hg : o.guard = none) (hd : o.dst = some t)
    (hz : ∀ (σ' : Sto) (e : Env), aop P Γ md σ' e (.alloc T) = some (.ref σ'.length 0, σ' ++ [.cells zs])) : ARun P Γ md ops (fun env' σ' => env' = aput e (some t) (.ref st.length 0) ∧ σ' = st ++ [.cells zs]) [o] e st := by
  have hw : aWanted ops e o = some true := by simp [aWanted, hg]
  unfold ARun
  rw [hw]
  simp only [ho, hz]
  unfold ARun
  rw [hd]
  exact ⟨rfl, rfl⟩
theorem ADraw.alloc2 (md : Bool) (m a1 a2 : Nat) {t1 t2 : Tmp} {T : TypeId} {zs : List AV} {ops : Array Oper} {env : Env} {σ : Sto} {K : Env → Sto → Prop} {s : Nat} {l : List Oper} (hb : blockB .any ops s (m + 1) = true)
    {ost : Oper} {To : TypeId} {xo : Operand} (hst : ops[s + m]? = some ost) (hso : ost.op = .store To (.tmp t1) xo) (hsg : ost.guard = none) (hsd : ost.dst = none) (hs1 : a1 ∈ edges .any ost) (hs2 : a2 ∈ edges .any ost)
    (hab : allocB ops s m a1 a2 t1 t2 = true) (ha1 : s ≤ a1) (ha12 : a1 < a2) (ha2 : a2 < s + m)
    (ho1 : ∃ o, ops[a1]? = some o ∧ o.op = .alloc T ∧ o.guard = none ∧ o.dst = some t1) (ho2 : ∃ o, ops[a2]? = some o ∧ o.op = .alloc T ∧ o.guard = none ∧ o.dst = some t2)
    (hz : ∀ (σ' : Sto) (e : Env), aop P Γ md σ' e (.alloc T) = some (.ref σ'.length 0, σ' ++ [.cells zs])) (hzb : ∀ n, belL n zs = true)
    (h : AQ P Γ md (ops.map noAlloc) σ (fun env' => ARun P Γ md ops (fun e σ' => ADraw F P Γ ops (s + (m + 1)) (l.drop (m + 1)) e σ' K) [ost] ((env'.set t1 (.ref σ.length 0)).set t2 (.ref (σ.length + 1) 0)) (σ ++ [.cells zs, .cells zs])) ((l.take m).map noAlloc) env) : ADraw F P Γ ops s l env σ K := by
  intro C a Q fuel listed hs hsz hL hf hl hd hq
  have hs0 := hs
  have hB := blockB_spec hb
  have hstd : dstOf ops (s + m) = none := by simp [dstOf, hst, hsd]
  have hpl : ∀ i o, s ≤ i → i < s + m → i ≠ a1 → i ≠ a2 → ops[i]? = some o → plainOp o.op = true ∧ t1 ∉ o.looksAt ops ∧ t2 ∉ o.looksAt ops := by
    intro i o h1 h2 h3 h4 ho
    have := List.all_eq_true.1 hab i (List.mem_range'_1.2 ⟨h1, h2⟩)
    simp only [h3, h4, decide_false, Bool.false_or, ho, Bool.and_eq_true, Bool.not_eq_true'] at this
    obtain ⟨⟨g1, g2⟩, g3⟩ := this
    exact ⟨g1, by simpa using g2, by simpa using g3⟩
  obtain ⟨o1, ho1, hop1, hg1, hd1⟩ := ho1
  obtain ⟨o2, ho2, hop2, hg2, hd2⟩ := ho2
  have hdo : ∀ i, dstOf (ops.map noAlloc) i = dstOf ops i := noAlloc_dstOf ops
  have hdo1 : dstOf ops a1 = some t1 := by simp [dstOf, ho1, hd1]
  have hdo2 : dstOf ops a2 = some t2 := by simp [dstOf, ho2, hd2]
  have ht12 : t1 ≠ t2 := by
    rcases hB.dist a1 a2 ha1 (by omega) (by omega) (by omega) (by omega) with e | e
    · rw [hdo2] at e; cases e
    · rw [hdo1, hdo2] at e; exact fun e' => e (by rw [e'])
  obtain ⟨ws, y, hch, hk0⟩ := h.ch
  have hwst : ∀ e, aWanted ops e ost = some true := fun e => by simp [aWanted, hsg]
  have hll : l.length = ops.size - s := by
    rcases Nat.lt_trichotomy l.length (ops.size - s) with h | h | h
    · have := hl l.length
      rw [List.getElem?_eq_none (Nat.le_refl _), Array.getElem?_eq_getElem (by omega)] at this
      cases this
    · exact h
    · have := hl (ops.size - s)
      rw [List.getElem?_eq_getElem h, Array.getElem?_eq_none (by omega)] at this
      cases this
  have hmn : s + (m + 1) ≤ ops.size := by
    have := (Array.getElem?_eq_some_iff.1 hst).1
    omega
  have hml : ((l.take m).map noAlloc).length = m := by
    rw [List.length_map, List.length_take]
    omega
  let n := σ.length
  let vs : Nat → AV := fun i => ws.getD (i - s) .any
  let R := List.range' s m
  let R1 := List.range' s (m + 1)
  have hRR : R1 = R ++ [s + m] := by simp [R1, R, List.range'_concat]
  have hRe : ∀ (vs' : Nat → AV) (L : Nat → Bool) (x : Env), envL ops vs' L R1 x = envL ops vs' L R x := by
    intro vs' L x
    rw [hRR]
    have : ∀ (l : List Nat) (x : Env), envL ops vs' L (l ++ [s + m]) x = envL ops vs' L l x := by
      intro l
      induction l with
      | nil => intro x; simp [envL, hstd, aput]
      | cons j l ih => intro x; simp only [List.cons_append, envL]; exact ih _
    exact this R x
  have hstart : envL ops vs (fun j => decide (j < s)) R env = env := by
    have : ∀ (l : List Nat) (x : Env), (∀ j ∈ l, s ≤ j) → envL ops vs (fun j => decide (j < s)) l x = x := by
      intro l
      induction l with
      | nil => intro x _; rfl
      | cons j l ih =>
        intro x hx
        have : ¬ j < s := by have := hx j List.mem_cons_self; omega
        simp only [envL, this, decide_false, Bool.false_eq_true, if_false]
        exact ih x fun k hk => hx k (List.mem_cons_of_mem _ hk)
    exact this _ _ fun j hj => (List.mem_range'_1.1 hj).1
  have hlt : ∀ j, j < m → ((l.take m).map noAlloc)[j]? = (ops.map noAlloc)[s + j]? := by
    intro j hj
    rw [List.getElem?_map, List.getElem?_take, if_pos hj, hl j, Array.getElem?_map]
  obtain ⟨hQ1', hy'⟩ := Ch.at (s := s) (m := m) (fun i j h1 h2 h3 h4 h5 => by rw [hdo, hdo]; exact hB.dist i j h1 (by omega) h3 (by omega) h5) (vs := vs) (env := env) ((l.take m).map noAlloc) s ws env y hch (Nat.le_refl _) (by rw [hml]) (fun j hj => by
    rw [hml] at hj
    exact (hlt j hj).symm) (fun j _ => by simp [vs]) (by rw [envL_dst hdo]; exact hstart.symm)
  have hy : y = envL ops vs (fun j => decide (j < s + m)) R env := by rw [hy', envL_dst hdo]
  have hQ1 : ∀ i o, s ≤ i → i < s + m → i ≠ a1 → i ≠ a2 → ops[i]? = some o → Q1 P Γ md ops σ o (envL ops vs (fun j => decide (j < i)) R env) (vs i) := by
    intro i o h1 h2 h3 h4 ho
    have hp := (hpl i o h1 h2 h3 h4 ho).1
    have := hQ1' i (noAlloc o) h1 h2 (by rw [Array.getElem?_map, ho]; rfl)
    rw [envL_dst hdo, noAlloc_plain hp] at this
    exact noAlloc_Q1 this
  have hbw : ∀ i ∈ R, (vs i).bel n = true := by
    intro i hi
    have hi := List.mem_range'_1.1 hi
    have hpa : ∀ o ∈ (l.take m).map noAlloc, plainOp o.op = true := by
      intro o ho
      obtain ⟨j, hj⟩ := List.getElem?_of_mem ho
      have hjm : j < m := by
        have := (List.getElem?_eq_some_iff.1 hj).1
        omega
      rw [hlt j hjm, Array.getElem?_map] at hj
      obtain ⟨o', ho', e⟩ := Option.map_eq_some_iff.1 hj
      by_cases e1 : s + j = a1
      · rw [e1, ho1] at ho'
        cases ho'
        rw [← e]
        unfold noAlloc
        rw [hop1]
        rfl
      · by_cases e2 : s + j = a2
        · rw [e2, ho2] at ho'
          cases ho'
          rw [← e]
          unfold noAlloc
          rw [hop2]
          rfl
        · have hp := (hpl (s + j) o' (by omega) (by omega) e1 e2 ho').1
          rw [← e, noAlloc_plain hp]
          exact hp
    have := Ch.bel hpa hch hs (i - s) (by rw [hml]; omega)
    exact this
  have hbe : ∀ v ∈ env, v.bel n = true := by
    have hbl : belL n env = true := by
      have := RelL.bel hs.L
      rwa [hs.σ] at this
    intro v hv
    have : ∀ (cs : List AV), belL n cs = true → ∀ v ∈ cs, v.bel n = true := by
      intro cs
      induction cs with
      | nil => intro _ v hv; cases hv
      | cons c cs ih =>
        intro hc v hv
        simp only [belL, Bool.and_eq_true] at hc
        rcases List.mem_cons.1 hv with e | e
        · rw [e]; exact hc.1
        · exact ih hc.2 v e
    exact this env hbl v hv
  have hC : C.σ.length = n := by rw [hs.σ]
  have hyl : y.length = env.length := by rw [hy, envL_length]
  let z : Env := (y.set t1 (.ref n 0)).set t2 (.ref (n + 1) 0)
  have hzE : envL ops (vL vs n a1 a2 (fun _ => true)) (fun _ => true) R env = z := by
    refine List.ext_getElem? fun t => ?_
    have base : ∀ t, t ≠ t1 → t ≠ t2 → (envL ops (vL vs n a1 a2 (fun _ => true)) (fun _ => true) R env)[t]? = y[t]? := by
      intro t e1 e2
      rw [hy]
      refine envL_at _ _ _ rfl rfl fun i hi hdi => ⟨by simp [(List.mem_range'_1.1 hi).2], fun _ => ?_⟩
      have n1 : i ≠ a1 := fun e => by rw [e, hdo1] at hdi; cases hdi; exact e1 rfl
      have n2 : i ≠ a2 := fun e => by rw [e, hdo2] at hdi; cases hdi; exact e2 rfl
      simp [vL, n1, n2]
    have hset : ∀ i t v, i ∈ R → dstOf ops i = some t → vL vs n a1 a2 (fun _ => true) i = v → (envL ops (vL vs n a1 a2 (fun _ => true)) (fun _ => true) R env)[t]? = (env.set t v)[t]? := by
      intro i t v hi hdi hv
      have hi' := List.mem_range'_1.1 hi
      let L0 : Nat → Bool := fun j => decide (j ≠ i)
      have := envL_set (ops := ops) (vs := vL vs n a1 a2 (fun _ => true)) (L := L0) (L' := fun _ => true) (i := i) (by simp [L0]) rfl R env hi List.nodup_range' (fun j hj hne => by simp [L0, hne]) (fun j hj hne => by
        have hj := List.mem_range'_1.1 hj
        exact hB.dist i j hi'.1 (by omega) hj.1 (by omega) hne)
      rw [this, hdi, hv]
      simp only [aput, List.getElem?_set, envL_length]
      split
      · rfl
      · rename_i hne
        exact absurd trivial hne
    by_cases e2 : t = t2
    · subst e2
      rw [hset a2 t (.ref (n + 1) 0) (List.mem_range'_1.2 ⟨by omega, ha2⟩) hdo2 (by simp [vL, show a2 ≠ a1 by omega])]
      simp only [z, List.getElem?_set, List.length_set, hyl]
      simp
    · by_cases e1 : t = t1
      · subst e1
        rw [hset a1 t (.ref n 0) (List.mem_range'_1.2 ⟨ha1, by omega⟩) hdo1 (by simp [vL])]
        show _ = ((y.set t (.ref n 0)).set t2 (.ref (n + 1) 0))[t]?
        rw [List.getElem?_set_ne (fun e => e2 e.symm)]
        simp only [List.getElem?_set, hyl, if_true]
      · rw [base t e1 e2]
        show _ = ((y.set t1 (.ref n 0)).set t2 (.ref (n + 1) 0))[t]?
        rw [List.getElem?_set_ne (fun e => e2 e.symm), List.getElem?_set_ne (fun e => e1 e.symm)]
  obtain ⟨w, hstore, hk⟩ : ∃ w, aop P Γ md (σ ++ [.cells zs, .cells zs]) z ost.op = some (.any, σ ++ [.cells w, .cells zs]) ∧ ADraw F P Γ ops (s + (m + 1)) (l.drop (m + 1)) z (σ ++ [.cells w, .cells zs]) K := by
    unfold ARun at hk0
    rw [hwst] at hk0
    simp only [hso] at hk0
    cases ho : aop P Γ md (σ ++ [.cells zs, .cells zs]) z (.store To (.tmp t1) xo) with
    | none =>
      rw [show (y.set t1 (.ref σ.length 0)).set t2 (.ref (σ.length + 1) 0) = z from rfl, ho] at hk0
      exact hk0.elim
    | some r =>
      obtain ⟨v, σ'⟩ := r
      rw [show (y.set t1 (.ref σ.length 0)).set t2 (.ref (σ.length + 1) 0) = z from rfl, ho] at hk0
      unfold ARun at hk0
      rw [hsd] at hk0
      have ho' := ho
      simp only [aop] at ho'
      obtain ⟨q, hq, e⟩ := Option.map_eq_some_iff.1 ho'
      cases e
      obtain ⟨w, rfl⟩ := store_two (zs := zs) (e := z) (t := t1) rfl (fun q hq => by
        have hq : ((y.set t1 (.ref n 0)).set t2 (.ref (n + 1) 0))[t1]? = some q := hq
        rw [List.getElem?_set_ne (fun e => ht12 e.symm), List.getElem?_set] at hq
        simp only [if_true] at hq
        split at hq
        · cases hq; rfl
        · cases hq) hq
      exact ⟨w, by rw [hso]; exact ho, hk0⟩
  have hvcong : ∀ (L L' : Nat → Bool), L' a1 = L a1 → ∀ i, vL vs n a1 a2 L' i = vL vs n a1 a2 L i := by
    intro L L' e i
    simp only [vL, e]
  have main : ∀ (fuel : Nat) (listed : Array Bool) (a : Act) (D : Ctx), Ext C D → Stands F Γ D a (envL ops (vL vs n a1 a2 (isL listed)) (isL listed) R env) (σ ++ zL zs w a1 a2 (s + m) (isL listed)) → listed.size = ops.size → (∀ i, i < s → i < ops.size → isL listed i = true) → (∀ i, i < ops.size → s + (m + 1) ≤ i → isL listed i = false) →
      R1.countP (fun i => !isL listed i) + (ops.size - (s + (m + 1))) ≤ fuel → Down .any ops (isL listed) → wpAnyIn F.fence 3 P .any ops Q fuel listed a D.w := by
    have fin : ∀ (fuel : Nat) (listed : Array Bool) (a : Act) (D : Ctx), Ext C D → Stands F Γ D a (envL ops (vL vs n a1 a2 (isL listed)) (isL listed) R env) (σ ++ zL zs w a1 a2 (s + m) (isL listed)) → listed.size = ops.size → (∀ i, i < s → i < ops.size → isL listed i = true) → (∀ i, i < ops.size → s + (m + 1) ≤ i → isL listed i = false) →
        R1.countP (fun i => !isL listed i) = 0 → ops.size - (s + (m + 1)) ≤ fuel → Down .any ops (isL listed) → wpAnyIn F.fence 3 P .any ops Q fuel listed a D.w := by
      intro fuel listed a D he hs hsz h1 h2 h0 hc hd
      have hall1 : ∀ i ∈ R1, isL listed i = true := by
        intro i hi
        have := List.countP_eq_zero.1 h0 i hi
        simpa using this
      have hall : ∀ i ∈ R, isL listed i = true := fun i hi => hall1 i (by rw [hRR]; exact List.mem_append_left _ hi)
      have l1 : isL listed a1 = true := hall a1 (List.mem_range'_1.2 ⟨ha1, by omega⟩)
      have l2 : isL listed a2 = true := hall a2 (List.mem_range'_1.2 ⟨by omega, ha2⟩)
      have l3 : isL listed (s + m) = true := hall1 (s + m) (by rw [hRR]; simp)
      have hst : σ ++ zL zs w a1 a2 (s + m) (isL listed) = σ ++ [.cells w, .cells zs] := by simp [zL, l1, l2, l3]
      have hE : envL ops (vL vs n a1 a2 (isL listed)) (isL listed) R env = z := by
        rw [← hzE]
        refine envL_congr2 _ _ fun j hj => ⟨hall j hj, fun _ => ?_⟩
        simp only [vL, l1]
      rw [hE, hst] at hs
      refine hk D a Q fuel listed hs hsz (fun i hi => ?_) (by omega) (fun j => ?_) hd (fun e a w hp => hq e a w (hp.trans he))
      · by_cases hlt : i < s + (m + 1)
        · rw [decide_eq_true hlt]
          by_cases his : i < s
          · exact h1 i his hi
          · exact hall1 i (List.mem_range'_1.2 ⟨by omega, hlt⟩)
        · rw [decide_eq_false hlt]
          exact h2 i hi (by omega)
      · rw [List.getElem?_drop, hl]
        congr 1
        omega
    intro fuel
    induction fuel with
    | zero =>
      intro listed a D he hs hsz h1 h2 hc hd
      exact fin 0 listed a D he hs hsz h1 h2 (by omega) (by omega) hd
    | succ f ih =>
      intro listed a D he hs hsz h1 h2 hc hd
      have hstL : isL listed (s + m) = true → isL listed a1 = true ∧ isL listed a2 = true := fun h => ⟨hd (s + m) ost h hst a1 hs1, hd (s + m) ost h hst a2 hs2⟩
      by_cases h0 : R1.countP (fun i => !isL listed i) = 0
      · exact fin (f + 1) listed a D he hs hsz h1 h2 h0 (by omega) hd
      · have hex : ∃ i, i ∈ R1 ∧ isL listed i = false := by
          obtain ⟨i, hi, hi'⟩ := List.countP_pos_iff.1 (Nat.pos_of_ne_zero h0)
          exact ⟨i, hi, by simpa using hi'⟩
        refine ⟨fun hr => ?_, fun i hi => ?_⟩
        · exfalso
          obtain ⟨i, hi, hi'⟩ := hex
          have hi := List.mem_range'_1.1 hi
          obtain ⟨k, k1, k2, k3, k4⟩ := least (L := isL listed) i hi.1 hi.2 hi'
          obtain ⟨o, ho, hed⟩ := hB.fit k k1 k2
          have hkn := (Array.getElem?_eq_some_iff.1 ho).1
          have : k ∈ Region.ready .any ops listed := (mem_ready hsz).2 ⟨hkn, k3, o, ho, fun e he => by
            have := hed e he
            by_cases hes : e < s
            · exact h1 e hes (by omega)
            · exact k4 e (by omega) this⟩
          rw [hr] at this
          cases this
        · obtain ⟨g1, g2, o, ho, g3⟩ := (mem_ready hsz).1 hi
          have his : s ≤ i := by
            rcases Nat.lt_or_ge i s with h | h
            · rw [h1 i h g1] at g2
              cases g2
            · exact h
          have him1 : i < s + (m + 1) := by
            rcases Nat.lt_or_ge i (s + (m + 1)) with h | h
            · exact h
            · exfalso
              obtain ⟨j, hj, hj'⟩ := hex
              have hj := List.mem_range'_1.1 hj
              have := hd.anc (hB.after i g1 h j hj.1 hj.2) (fun o' ho' => by rw [ho] at ho'; cases ho'; exact g3)
              rw [this] at hj'
              cases hj'
          have hiR1 : i ∈ R1 := List.mem_range'_1.2 ⟨his, him1⟩
          have hisz : i < listed.size := by omega
          have hdst : dstOf ops i = o.dst := by simp [dstOf, ho]
          have go : ∀ (a' : Act) (E' : Ctx), Ext C E' → Stands F Γ E' a' (envL ops (vL vs n a1 a2 (isL (listed.setIfInBounds i true))) (isL (listed.setIfInBounds i true)) R env) (σ ++ zL zs w a1 a2 (s + m) (isL (listed.setIfInBounds i true))) → wpAnyIn F.fence 3 P .any ops Q f (listed.setIfInBounds i true) a' E'.w := by
            intro a' E' he' hs'
            refine ih (listed.setIfInBounds i true) a' E' he' hs' (by simpa using hsz) (fun j hj hjn => ?_) (fun j hjn hj => ?_) ?_ (hd.set hisz (fun o' ho' => by rw [ho] at ho'; cases ho'; exact g3))
            · rw [isL_set hisz, h1 j hj hjn]
              simp
            · rw [isL_set hisz, h2 j hjn hj]
              simp
              omega
            · have := count_set (L := isL listed) (L' := isL (listed.setIfInBounds i true)) g2 (by rw [isL_set hisz]; simp) R1 hiR1 List.nodup_range' (fun j hne => by rw [isL_set hisz]; simp [hne])
              omega
          by_cases est : i = s + m
          · subst est
            rw [hst] at ho
            cases ho
            have l1 : isL listed a1 = true := g3 a1 hs1
            have l2 : isL listed a2 = true := g3 a2 hs2
            have hL1 : isL (listed.setIfInBounds (s + m) true) a1 = true := by rw [isL_set hisz, l1]; simp
            have hL2 : isL (listed.setIfInBounds (s + m) true) a2 = true := by rw [isL_set hisz, l2]; simp
            have hL3 : isL (listed.setIfInBounds (s + m) true) (s + m) = true := by rw [isL_set hisz]; simp
            have hag : Agree (ost.looksAt ops) z (envL ops (vL vs n a1 a2 (isL listed)) (isL listed) R env) := by
              intro t ht
              rw [← hzE]
              refine envL_at _ _ _ rfl rfl fun j hj hdj => ?_
              have hj := List.mem_range'_1.1 hj
              obtain ⟨q1, q2⟩ := hB.looks (s + m) j ost t (by omega) (by omega) hj.1 (by omega) hst hdj ht
              exact ⟨(g3 j q2).symm, fun _ => by simp only [vL, l1]⟩
            have hz0 : zL zs w a1 a2 (s + m) (isL listed) = [.cells zs, .cells zs] := by simp [zL, l1, l2, g2]
            have hrun : ARun P Γ md ops (fun env' σ' => env' = envL ops (vL vs n a1 a2 (isL listed)) (isL listed) R env ∧ σ' = σ ++ [.cells w, .cells zs]) [ost] (envL ops (vL vs n a1 a2 (isL listed)) (isL listed) R env) (σ ++ zL zs w a1 a2 (s + m) (isL listed)) := by
              have ha := agree_aop (P := P) (Γ := Γ) (md := md) (σ := σ ++ [.cells zs, .cells zs]) (op := ost.op) (agree_opnd hag)
              rw [ha, hso] at hstore
              unfold ARun
              rw [hwst, hz0]
              simp only [hso, hstore]
              unfold ARun
              rw [hsd]
              exact ⟨rfl, rfl⟩
            refine step_ok hst hrun hs ?_
            rintro E' a' env' he' hs' ⟨rfl, hσ'⟩
            rw [hσ'] at hs'
            refine go a' E' (he.trans he') ?_
            have e1 : envL ops (vL vs n a1 a2 (isL (listed.setIfInBounds (s + m) true))) (isL (listed.setIfInBounds (s + m) true)) R env = envL ops (vL vs n a1 a2 (isL listed)) (isL listed) R env := by
              refine envL_congr2 _ _ fun j hj => ?_
              have hj := List.mem_range'_1.1 hj
              exact ⟨by rw [isL_set hisz]; simp [show j ≠ s + m by omega], fun _ => by simp only [vL, hL1, l1]⟩
            rw [e1, show zL zs w a1 a2 (s + m) (isL (listed.setIfInBounds (s + m) true)) = [.cells w, .cells zs] by simp [zL, hL1, hL2, hL3]]
            exact hs'
          have him : i < s + m := by omega
          have hiR : i ∈ R := List.mem_range'_1.2 ⟨his, him⟩
          have hL3 : isL (listed.setIfInBounds i true) (s + m) = isL listed (s + m) := by rw [isL_set hisz]; simp [show s + m ≠ i by omega]
          have hset : ∀ vs', envL ops vs' (isL (listed.setIfInBounds i true)) R env = aput (envL ops vs' (isL listed) R env) o.dst (vs' i) := by
            intro vs'
            rw [← hdst]
            refine envL_set g2 (by rw [isL_set hisz]; simp) _ _ hiR List.nodup_range' (fun j _ hne => by rw [isL_set hisz]; simp [hne]) (fun j hj hne => ?_)
            have hj := List.mem_range'_1.1 hj
            exact hB.dist i j his him1 hj.1 (by omega) hne
          by_cases e1 : i = a1
          · subst e1
            rw [ho1] at ho
            cases ho
            have hL1 : isL (listed.setIfInBounds i true) i = true := by rw [isL_set hisz]; simp
            have hL2 : isL (listed.setIfInBounds i true) a2 = isL listed a2 := by rw [isL_set hisz]; simp [show a2 ≠ i by omega]
            refine step_ok ho1 (alloc_run hop1 hg1 hd1 hz) hs ?_
            rintro E' a' env' he' hs' ⟨rfl, hσ'⟩
            rw [hσ'] at hs'
            have hs3 : isL listed (s + m) = false := by
              cases h : isL listed (s + m) with
              | false => rfl
              | true => rw [(hstL h).1] at g2; cases g2
            have hz1 : zL zs w i a2 (s + m) (isL listed) = if isL listed a2 then [.cells zs] else [] := by simp [zL, g2]
            have hz2 : zL zs w i a2 (s + m) (isL (listed.setIfInBounds i true)) = .cells zs :: (if isL listed a2 then [.cells zs] else []) := by simp [zL, hL1, hL2, hL3, hs3]
            cases hl2 : isL listed a2 with
            | false =>
              rw [hz1, hl2] at hs' hσ'
              refine go a' E' (he.trans he') ?_
              rw [hz2, hl2, hset, hd1]
              have e3 : envL ops (vL vs n i a2 (isL (listed.setIfInBounds i true))) (isL listed) R env = envL ops (vL vs n i a2 (isL listed)) (isL listed) R env := by
                refine envL_congr2 _ _ fun j _ => ⟨rfl, fun hj => ?_⟩
                have : j ≠ a2 := fun e => by rw [e, hl2] at hj; cases hj
                simp [vL, this]
              rw [e3]
              simpa [vL] using hs'
            | true =>
              rw [hz1, hl2] at hs' hσ'
              have hσ2 : E'.σ = σ ++ [.cells zs, .cells zs] := by rw [hσ']; simp
              have hg : E'.σ[n]? = E'.σ[n + 1]? := by
                rw [hσ2, List.getElem?_append_right (Nat.le_refl _), List.getElem?_append_right (Nat.le_succ _)]
                simp [n]
              have hbσ : ∀ (k : Nat) (ao : AO), E'.σ[k]? = some ao → ao.bel n = true := by
                intro k ao hk
                rw [hσ2] at hk
                rcases Nat.lt_or_ge k σ.length with hlt | hge
                · rw [List.getElem?_append_left hlt] at hk
                  have := hs0.S.bel (i := k) (a := ao) (by rw [hs0.σ]; exact hk)
                  rwa [hs0.σ] at this
                · rw [List.getElem?_append_right hge] at hk
                  have := List.mem_of_getElem? hk
                  simp only [List.mem_cons, List.not_mem_nil, or_false, or_self] at this
                  rw [this]
                  exact hzb n
              have hxx := swap_ext (he.trans he') hC hg
              refine go a' (E'.swap n) hxx ⟨?_, swap_rel hs'.S hg hbσ, RelG.mono hxx hs0.G, ?_, DOk.swap hg (by rw [hσ2, List.getElem?_append_right (Nat.le_refl _)]; simp [n]) hs'.D⟩
              · show E'.σ = _
                rw [hσ2, hz2, hl2]
                rfl
              · refine relL_via ?_ hs'.L fun t c c' x hc hc' hr => ?_
                · rw [hset, aput_length, envL_length, aput_length, envL_length]
                · rw [hset, hd1] at hc'
                  simp only [aput, List.getElem?_set, envL_length] at hc hc'
                  by_cases et1 : t1 = t
                  · rw [if_pos et1] at hc hc'
                    split at hc <;> try (simp at hc; done)
                    rename_i hlt
                    rw [if_pos hlt] at hc'
                    simp only [Option.some.injEq] at hc hc'
                    rw [← hc] at hr
                    rw [← hc']
                    obtain ⟨_, rfl⟩ := hr
                    simp only [vL, if_true]
                    refine ⟨⟨.cells zs, ?_, rfl⟩, ?_⟩
                    · show E'.σ[n]? = _
                      rw [hσ2, List.getElem?_append_right (Nat.le_refl _)]
                      simp [n]
                    · show _ = Value.pointer (some ⟨E'.φ (swp n n), 0, none⟩)
                      simp [swp, n]
                  · rw [if_neg et1] at hc hc'
                    by_cases et2 : t2 = t
                    · subst et2
                      have q1 : ∀ L' vs', L' a2 = true → (envL ops vs' L' R env)[t2]? = (env.set t2 (vs' a2))[t2]? := by
                        intro L' vs' hL'
                        let L0 : Nat → Bool := fun j => L' j && decide (j ≠ a2)
                        have := envL_set (ops := ops) (vs := vs') (L := L0) (L' := L') (i := a2) (by simp [L0]) hL' R env (List.mem_range'_1.2 ⟨by omega, ha2⟩) List.nodup_range' (fun j hj hne => by simp [L0, hne]) (fun j hj hne => by
                          have hj := List.mem_range'_1.1 hj
                          exact hB.dist a2 j (by omega) (by omega) hj.1 (by omega) hne)
                        rw [this, hdo2]
                        simp only [aput, List.getElem?_set, envL_length]
                        split
                        · rfl
                        · rename_i hne
                          exact absurd trivial hne
                      rw [q1 _ _ hl2] at hc
                      rw [q1 _ _ hl2] at hc'
                      simp only [List.getElem?_set, if_true] at hc hc'
                      split at hc <;> try (simp at hc; done)
                      rename_i hlt
                      rw [if_pos hlt] at hc'
                      simp only [Option.some.injEq] at hc hc'
                      rw [← hc] at hr
                      rw [← hc']
                      simp only [vL, show a2 ≠ i by omega, if_false, if_true, g2, hL1, Bool.false_eq_true] at hr ⊢
                      obtain ⟨_, rfl⟩ := hr
                      refine ⟨⟨.cells zs, ?_, rfl⟩, ?_⟩
                      · show E'.σ[n + 1]? = _
                        rw [← hg, hσ2, List.getElem?_append_right (Nat.le_refl _)]
                        simp [n]
                      · show _ = Value.pointer (some ⟨E'.φ (swp n (n + 1)), 0, none⟩)
                        simp [swp]
                    · have q2 : ∀ L' : Nat → Bool, (envL ops (vL vs n i a2 L') (isL listed) R env)[t]? = (envL ops vs (isL listed) R env)[t]? := by
                        intro L'
                        refine envL_at _ _ _ rfl rfl fun j hj hdj => ⟨rfl, fun _ => ?_⟩
                        have n1 : j ≠ i := fun e => by rw [e, hdo1] at hdj; cases hdj; exact et1 rfl
                        have n2 : j ≠ a2 := fun e => by rw [e, hdo2] at hdj; cases hdj; exact et2 rfl
                        simp [vL, n1, n2]
                      rw [q2] at hc hc'
                      rw [hc] at hc'
                      cases hc'
                      have hbc : c.bel n = true := envL_all (p := fun v => v.bel n = true) R env hbe hbw c (List.mem_of_getElem? hc)
                      exact RelV.keep (swap_less hg) hbc hr
          · by_cases e2 : i = a2
            · subst e2
              rw [ho2] at ho
              cases ho
              have hL1 : isL (listed.setIfInBounds i true) a1 = isL listed a1 := by rw [isL_set hisz]; simp [show a1 ≠ i by omega]
              have hL2 : isL (listed.setIfInBounds i true) i = true := by rw [isL_set hisz]; simp
              refine step_ok ho2 (alloc_run hop2 hg2 hd2 hz) hs ?_
              rintro E' a' env' he' hs' ⟨rfl, hσ'⟩
              rw [hσ'] at hs'
              refine go a' E' (he.trans he') ?_
              rw [hset, hd2]
              have e3 : vL vs n a1 i (isL (listed.setIfInBounds i true)) = vL vs n a1 i (isL listed) := funext (hvcong _ _ hL1)
              rw [e3]
              have hs3 : isL listed (s + m) = false := by
                cases h : isL listed (s + m) with
                | false => rfl
                | true => rw [(hstL h).2] at g2; cases g2
              have e4 : vL vs n a1 i (isL listed) i = .ref (σ ++ zL zs w a1 i (s + m) (isL listed)).length 0 := by
                cases hl1 : isL listed a1 <;> simp [vL, zL, hl1, g2, e1, n]
              have e5 : σ ++ zL zs w a1 i (s + m) (isL (listed.setIfInBounds i true)) = σ ++ zL zs w a1 i (s + m) (isL listed) ++ [.cells zs] := by
                simp [zL, hL1, hL2, g2, hL3, hs3]
              rw [e4, e5]
              exact hs'
            · obtain ⟨hp, hnl1, hnl2⟩ := hpl i o his him e1 e2 ho
              have hL1 : isL (listed.setIfInBounds i true) a1 = isL listed a1 := by rw [isL_set hisz]; simp [show a1 ≠ i by omega]
              have hL2 : isL (listed.setIfInBounds i true) a2 = isL listed a2 := by rw [isL_set hisz]; simp [show a2 ≠ i by omega]
              have hQi : Q1 P Γ md ops σ o (envL ops (vL vs n a1 a2 (isL listed)) (isL listed) R env) (vs i) := by
                refine Q1.agree ?_ (hQ1 i o his him e1 e2 ho)
                intro t ht
                refine envL_at _ _ _ rfl rfl fun j hj hdj => ?_
                have hj := List.mem_range'_1.1 hj
                obtain ⟨q1, q2⟩ := hB.looks i j o t his (by omega) hj.1 (by omega) ho hdj ht
                refine ⟨by rw [g3 j q2]; simp [q1], fun _ => ?_⟩
                have n1 : j ≠ a1 := fun e => by rw [e, hdo1] at hdj; cases hdj; exact hnl1 ht
                have n2 : j ≠ a2 := fun e => by rw [e, hdo2] at hdj; cases hdj; exact hnl2 ht
                simp [vL, n1, n2]
              refine step_ok ho (Q1.run (Q1.frame hp (zL zs w a1 a2 (s + m) (isL listed)) hQi)) hs ?_
              rintro E' a' env' he' hs' ⟨rfl, hσ'⟩
              rw [hσ'] at hs'
              refine go a' E' (he.trans he') ?_
              have e3 : vL vs n a1 a2 (isL (listed.setIfInBounds i true)) = vL vs n a1 a2 (isL listed) := funext (hvcong _ _ hL1)
              have e4 : zL zs w a1 a2 (s + m) (isL (listed.setIfInBounds i true)) = zL zs w a1 a2 (s + m) (isL listed) := by simp only [zL, hL1, hL2, hL3]
              rw [hset, e3, e4, show vL vs n a1 a2 (isL listed) i = vs i by simp [vL, e1, e2]]
              exact hs'
  refine main fuel listed a C (Ext.refl _) ?_ hsz (fun i hi hin => by rw [hL i hin]; simp [hi]) (fun i hin hi => by rw [hL i hin]; simp; omega) ?_ hd
  · have n1 : isL listed a1 = false := by rw [hL a1 (by omega)]; simp; omega
    have n2 : isL listed a2 = false := by rw [hL a2 (by omega)]; simp; omega
    have : envL ops (vL vs n a1 a2 (isL listed)) (isL listed) R env = env := by
      rw [← hstart]
      have e1 : envL ops (vL vs n a1 a2 (isL listed)) (isL listed) R (envL ops vs (fun j => decide (j < s)) R env) = envL ops (vL vs n a1 a2 (isL listed)) (isL listed) R env := by rw [hstart]
      rw [e1]
      refine envL_congr2 _ _ fun j hj => ?_
      have hj := List.mem_range'_1.1 hj
      have hjl : isL listed j = decide (j < s) := hL j (by omega)
      exact ⟨hjl, fun h => by simp at h; omega⟩
    rw [this]
    simpa [zL, n1, n2] using hs
  · have : R1.countP (fun i => !isL listed i) ≤ m + 1 := by
      refine Nat.le_trans List.countP_le_length ?_
      simp [R1]
    omega

theorem ARun.split {md : Bool} {ops : Array Oper} {K : Env → Sto → Prop} {o : Oper} {rest : List Oper} {env : Env} {σ : Sto} (h : ARun P Γ md ops K (o :: rest) env σ) : ARun P Γ md ops (fun env' σ' => ARun P Γ md ops K rest env' σ') [o] env σ := by
  unfold ARun at h ⊢
  split at h
  · exact h
  · split at h
    · split at h
      · obtain ⟨R, h1, h2, h3⟩ := h
        exact ⟨R, h1, h2, fun v σ' hv => h3 v σ' hv⟩
      · obtain ⟨R, h2, h3⟩ := h
        exact ⟨R, h2, fun b σ' hv => h3 b σ' hv⟩
      · exact h.elim
    · split at h
      · exact h
      · exact h.elim
  · exact h.elim
/-- One after the other. -/
theorem ADraw.rest (md : Bool) {ops : Array Oper} {K : Env → Sto → Prop} : ∀ {l : List Oper} {s : Nat} {env : Env} {σ : Sto}, (List.range' s l.length).all (fun i => blockB .any ops i 1) = true → ARun P Γ md ops K l env σ → ADraw F P Γ ops s l env σ K
  | [], s, env, σ, _, h => ADraw.done h
  | o :: l, s, env, σ, hb, h => by
    simp only [List.length_cons, List.range'_succ, List.all_cons, Bool.and_eq_true] at hb
    refine ADraw.one md hb.1 (ARun.mono ?_ h.split)
    intro env' σ' h'
    exact ADraw.rest md hb.2 h'
theorem keepB_sub {l l' : List Oper} {env : Env} {ts : List Nat} (hk : keepB l env ts = true) (hs : ∀ o ∈ l', ∃ o' ∈ l, o.dst = o'.dst) : ∀ o ∈ l', ∀ t, o.dst = some t → t < env.length ∧ t ∈ dstsOf l := by
  intro o ho t ht
  obtain ⟨o', h1, h2⟩ := hs o ho
  exact keepB_dst hk o' h1 t (by rw [← h2]; exact ht)
/-- A drawn region: m operations in whatever order, the others one after the other. -/
theorem AW.drawm (hm : P.follows .mixedOrders = true) (md : Bool) (m : Nat) {ts : List Nat} {id : Nat} {l : List Oper} {env : Env} {σ : Sto} {Q : Exit → Env → Sto → Prop} (hb : blockB .any l.toArray 0 m = true) (hr : (List.range' m (l.length - m)).all (fun i => blockB .any l.toArray i 1) = true) (hk : keepB l env ts = true)
    (h : AQF P Γ md l.toArray σ (fun fe => ARunF P Γ md l.toArray (fun fe' σ' => ∀ env', Wk env' (setAll env ts fe') → Q .normal env' σ') (l.drop m) fe σ) (l.take m) (fun t => env.getD t .any)) : AW F P Γ (.region id l.toArray true) env σ Q := by
  refine AW.draw hm ?_
  refine ADraw.block md m hb ?_
  refine AQ.mono ?_ (AQF.q (keepB_sub hk fun o ho => ⟨o, List.mem_of_mem_take ho, rfl⟩) (Agr.start env (dstsOf l)) h)
  rintro env' ⟨fe, h1, h2⟩
  refine ADraw.rest md (by rw [List.length_drop, Nat.zero_add]; exact hr) ?_
  refine ARun.mono ?_ (ARunF.run (keepB_sub hk fun o ho => ⟨o, List.mem_of_mem_drop ho, rfl⟩) h2 h1)
  rintro env'' σ' ⟨fe', h3, h4⟩
  exact h3 _ (h4.wk hk)
theorem AW.regml (hm : P.follows .mixedOrders = true) (md : Bool) (ts : List Nat) (m : Nat) {id : Nat} {l : List Oper} {y : Code} {env : Env} {σ : Sto} {Q : Exit → Env → Sto → Prop} (hb : blockB .any l.toArray 0 m = true) (hr : (List.range' m (l.length - m)).all (fun i => blockB .any l.toArray i 1) = true) (hk : keepB l env ts = true)
    (h : ∀ K : List AV → Sto → Prop, (∀ vs σ', AW F P Γ y (setL env ts vs) σ' Q → K vs σ') → AQF P Γ md l.toArray σ (fun fe => ARunF P Γ md l.toArray (fun fe' σ' => K (ts.map fe') σ') (l.drop m) fe σ) (l.take m) (fun t => env.getD t .any)) : AW F P Γ (.seq (.region id l.toArray true) y) env σ Q := by
  refine AW.seq (AW.drawm hm md m hb hr hk ?_)
  have := h (fun vs σ' => ∀ fe, vs = ts.map fe → ∀ env', Wk env' (setAll env ts fe) → AW F P Γ y env' σ' Q) (fun vs σ' hy fe e env' hw => AW.weaken hw (by rw [← setL_map, ← e]; exact hy))
  exact AQF.mono (fun fe h => ARunF.mono (fun fe' σ' h => h fe' rfl) h) this
theorem AW.lastml (hm : P.follows .mixedOrders = true) (md : Bool) (ts : List Nat) (m : Nat) {id : Nat} {l : List Oper} {env : Env} {σ : Sto} {Q : Exit → Env → Sto → Prop} (hb : blockB .any l.toArray 0 m = true) (hr : (List.range' m (l.length - m)).all (fun i => blockB .any l.toArray i 1) = true) (hk : keepB l env ts = true)
    (h : ∀ K : List AV → Sto → Prop, (∀ vs σ', (∀ env', Wk env' (setL env ts vs) → Q .normal env' σ') → K vs σ') → AQF P Γ md l.toArray σ (fun fe => ARunF P Γ md l.toArray (fun fe' σ' => K (ts.map fe') σ') (l.drop m) fe σ) (l.take m) (fun t => env.getD t .any)) : AW F P Γ (.region id l.toArray true) env σ Q := by
  refine AW.drawm hm md m hb hr hk ?_
  have := h (fun vs σ' => ∀ fe, vs = ts.map fe → ∀ env', Wk env' (setAll env ts fe) → Q .normal env' σ') (fun vs σ' hy fe e env' hw => hy env' (by rw [e, setL_map]; exact hw))
  exact AQF.mono (fun fe h => ARunF.mono (fun fe' σ' h => h fe' rfl) h) this
def allocAt (l : List Oper) (a t T : Nat) : Bool := match l[a]? with
  | some o => (match o.op with | .alloc T' => T' == T | _ => false) && o.guard.isNone && o.dst == some t
  | none => false
theorem allocAt_spec {l : List Oper} {a t T : Nat} (h : allocAt l a t T = true) : ∃ o, l.toArray[a]? = some o ∧ o.op = .alloc T ∧ o.guard = none ∧ o.dst = some t := by
  unfold allocAt at h
  split at h
  · rename_i o ho
    simp only [Bool.and_eq_true] at h
    obtain ⟨⟨h1, h2⟩, h3⟩ := h
    refine ⟨o, by simpa using ho, ?_, by simpa using h2, by simpa using h3⟩
    split at h1
    · rename_i T' hT
      rw [hT]
      simp at h1
      rw [h1]
    · cases h1
  · cases h
def storeAt (l : List Oper) (st t1 a1 a2 : Nat) : Bool := match l[st]? with
  | some o => (match o.op with | .store _ (.tmp t) _ => t == t1 | _ => false) && o.guard.isNone && o.dst.isNone && (edges .any o).contains a1 && (edges .any o).contains a2
  | none => false
theorem storeAt_spec {l : List Oper} {st t1 a1 a2 : Nat} (h : storeAt l st t1 a1 a2 = true) : ∃ o To xo, l[st]? = some o ∧ o.op = .store To (.tmp t1) xo ∧ o.guard = none ∧ o.dst = none ∧ a1 ∈ edges .any o ∧ a2 ∈ edges .any o := by
  unfold storeAt at h
  split at h
  · rename_i o ho
    simp only [Bool.and_eq_true] at h
    obtain ⟨⟨⟨⟨h1, h2⟩, h3⟩, h4⟩, h5⟩ := h
    split at h1
    · rename_i To t xo hT
      simp at h1
      subst h1
      exact ⟨o, To, xo, ho, hT, by simpa using h2, by simpa using h3, by simpa using h4, by simpa using h5⟩
    · cases h1
  · cases h
/-- A drawn region that begins with m operations, two of which let variables of one type begin, and a store into the first of them; whatever the order of these. -/
theorem AW.drawal (hm : P.follows .mixedOrders = true) (md : Bool) (m a1 a2 t1 t2 : Nat) {T : Nat} {zs : List AV} {ts : List Nat} {id : Nat} {l : List Oper} {env : Env} {σ : Sto} {Q : Exit → Env → Sto → Prop} (hb : blockB .any l.toArray 0 (m + 1) = true)
    (hr : (List.range' (m + 1) (l.length - (m + 1))).all (fun i => blockB .any l.toArray i 1) = true) (hk : keepB l env ts = true) (hab : allocB l.toArray 0 m a1 a2 t1 t2 = true) (hst : storeAt l m t1 a1 a2 = true) (hlt : (decide (a1 < a2) && decide (a2 < m)) = true) (h1 : allocAt l a1 t1 T = true) (h2 : allocAt l a2 t2 T = true)
    (hz : ∀ (σ' : Sto) (e : Env), aop P Γ md σ' e (.alloc T) = some (.ref σ'.length 0, σ' ++ [.cells zs])) (hzb : ∀ n, belL n zs = true)
    (h : AQF P Γ md (l.toArray.map noAlloc) σ (fun fe => ARunF P Γ md l.toArray (fun fe' σ' => ∀ env', Wk env' (setAll env ts fe') → Q .normal env' σ') (l.drop m) (upd (upd fe (some t1) (.ref σ.length 0)) (some t2) (.ref (σ.length + 1) 0)) (σ ++ [.cells zs, .cells zs])) ((l.take m).map noAlloc) (fun t => env.getD t .any)) : AW F P Γ (.region id l.toArray true) env σ Q := by
  simp only [Bool.and_eq_true, decide_eq_true_eq] at hlt
  refine AW.draw hm ?_
  obtain ⟨o1, g1⟩ := allocAt_spec h1
  obtain ⟨o2, g2⟩ := allocAt_spec h2
  obtain ⟨ost, To, xo, s1, s2, s3, s4, s5, s6⟩ := storeAt_spec hst
  refine ADraw.alloc2 md m a1 a2 hb (ost := ost) (by rw [Nat.zero_add]; simpa using s1) s2 s3 s4 s5 s6 hab (Nat.zero_le _) hlt.1 (by omega) ⟨o1, g1⟩ ⟨o2, g2⟩ hz hzb ?_
  have hm1 : o1 ∈ l := by
    have := g1.1
    simp only [List.getElem?_toArray] at this
    exact List.mem_of_getElem? this
  have hm2 : o2 ∈ l := by
    have := g2.1
    simp only [List.getElem?_toArray] at this
    exact List.mem_of_getElem? this
  have hdrop : l.drop m = ost :: l.drop (m + 1) := by
    obtain ⟨hlt', e⟩ := List.getElem?_eq_some_iff.1 s1
    rw [List.drop_eq_getElem_cons hlt', e]
  refine AQ.mono ?_ (AQF.q (keepB_sub hk fun o ho => ?_) (Agr.start env (dstsOf l)) h)
  · rintro env' ⟨fe, k1, k2⟩
    have k3 := (k2.upd (d := some t1) (fun t ht => keepB_dst hk o1 hm1 t (by rw [g1.2.2.2]; exact ht)) (.ref σ.length 0)).upd (d := some t2) (fun t ht => keepB_dst hk o2 hm2 t (by rw [g2.2.2.2]; exact ht)) (.ref (σ.length + 1) 0)
    have k4 := ARunF.run (keepB_sub hk fun o ho => ⟨o, List.mem_of_mem_drop ho, rfl⟩) k3 k1
    rw [hdrop] at k4
    refine ARun.mono ?_ k4.split
    intro env2 σ2 k5
    refine ADraw.rest md (by rw [List.length_drop, Nat.zero_add]; exact hr) ?_
    refine ARun.mono ?_ k5
    rintro env'' σ' ⟨fe', h3, h4⟩
    exact h3 _ (h4.wk hk)
  · obtain ⟨o', ho', rfl⟩ := List.mem_map.1 ho
    exact ⟨o', List.mem_of_mem_take ho', noAlloc_dst o'⟩
theorem AW.regal (hm : P.follows .mixedOrders = true) (md : Bool) (ts : List Nat) (m a1 a2 t1 t2 : Nat) {T : Nat} {zs : List AV} {id : Nat} {l : List Oper} {y : Code} {env : Env} {σ : Sto} {Q : Exit → Env → Sto → Prop} (hb : blockB .any l.toArray 0 (m + 1) = true)
    (hr : (List.range' (m + 1) (l.length - (m + 1))).all (fun i => blockB .any l.toArray i 1) = true) (hk : keepB l env ts = true) (hab : allocB l.toArray 0 m a1 a2 t1 t2 = true) (hst : storeAt l m t1 a1 a2 = true) (hlt : (decide (a1 < a2) && decide (a2 < m)) = true) (h1 : allocAt l a1 t1 T = true) (h2 : allocAt l a2 t2 T = true)
    (hz : ∀ (σ' : Sto) (e : Env), aop P Γ md σ' e (.alloc T) = some (.ref σ'.length 0, σ' ++ [.cells zs])) (hzb : ∀ n, belL n zs = true)
    (h : ∀ K : List AV → Sto → Prop, (∀ vs σ', AW F P Γ y (setL env ts vs) σ' Q → K vs σ') → AQF P Γ md (l.toArray.map noAlloc) σ (fun fe => ARunF P Γ md l.toArray (fun fe' σ' => K (ts.map fe') σ') (l.drop m) (upd (upd fe (some t1) (.ref σ.length 0)) (some t2) (.ref (σ.length + 1) 0)) (σ ++ [.cells zs, .cells zs])) ((l.take m).map noAlloc) (fun t => env.getD t .any)) : AW F P Γ (.seq (.region id l.toArray true) y) env σ Q := by
  refine AW.seq (AW.drawal hm md m a1 a2 t1 t2 hb hr hk hab hst hlt h1 h2 hz hzb ?_)
  have := h (fun vs σ' => ∀ fe, vs = ts.map fe → ∀ env', Wk env' (setAll env ts fe) → AW F P Γ y env' σ' Q) (fun vs σ' hy fe e env' hw => AW.weaken hw (by rw [← setL_map, ← e]; exact hy))
  exact AQF.mono (fun fe h => ARunF.mono (fun fe' σ' h => h fe' rfl) h) this
theorem hz_of {md : Bool} {T : TypeId} {v : AV} (h : aZero P T = some v) (h1 : v.cells.all AV.one = true) : ∀ (σ' : Sto) (e : Env), aop P Γ md σ' e (.alloc T) = some (.ref σ'.length 0, σ' ++ [.cells v.cells]) := by
  intro σ' e
  simp only [aop, h, aNewVar, h1, if_true]
attribute [go_sem] List.take_succ_cons List.take_zero List.drop_succ_cons List.drop_zero noAlloc
end Go.Proofs.Ev
