import Derived.Test.YtnfimclkiccdhaaDoorPtEvCut
import Derived.Test.YtnfimclkiccdhaaDoorPtEvDraw4
/-! Drawn regions: what writes (and each call) comes in one order; what only looks may come anywhere between. -/
namespace Go.Proofs.Ev
set_option linter.unusedSimpArgs false
set_option linter.unusedVariables false
open Go
variable {F : Fr} {P : Program} {Γ : List (Nat × List AV)}
/-- Less is told. -/
def Weaker (u v : AV) : Prop := ∀ (C : Ctx) (x : Value), RelV C u x → RelV C v x
theorem Weaker.refl (v : AV) : Weaker v v := fun _ _ h => h
theorem aput_weak {C : Ctx} {env : Env} {d : Option Tmp} {u v : AV} (hw : Weaker u v) : ∀ {xs : List Value}, RelL C (aput env d u) xs → RelL C (aput env d v) xs := by
  cases d with
  | none => exact fun h => h
  | some t =>
    simp only [aput]
    induction env generalizing t with
    | nil => exact fun h => h
    | cons a env ih =>
      intro xs h
      cases t with
      | zero =>
        cases xs with
        | nil => exact h.elim
        | cons x xs => exact ⟨hw _ _ h.1, h.2⟩
      | succ t =>
        cases xs with
        | nil => exact h.elim
        | cons x xs => exact ⟨h.1, ih t h.2⟩
/-- A step that may write: from one store to another. -/
def EStep (P : Program) (Γ : List (Nat × List AV)) (σ : Sto) (x : Env) (o : Oper) (v : AV) (σ' : Sto) : Prop := match o.op with
  | .call { callee := .value q, args := as, argTypes := _ } => match opnd Γ x q with
    | .fn f caps => Enters P f ∧ ACalls P Γ f (as.toList.map (opnd Γ x) ++ caps) σ (fun v' σ1 => σ1 = σ' ∧ v' = v)
    | _ => False
  | op => ∃ u, aop P Γ false σ x op = some (u, σ') ∧ Weaker u v
theorem EStep.agree {ops : Array Oper} {o : Oper} {σ σ' : Sto} {env env' : Env} {v : AV} (ha : Agree (o.looksAt ops) env env') (h : EStep P Γ σ env o v σ') : EStep P Γ σ env' o v σ' := by
  unfold EStep at h ⊢
  have hop := agree_opnd (Γ := Γ) ha
  split at h
  · rename_i x as ts ho
    have hx : opnd Γ env x = opnd Γ env' x := hop x (by rw [ho]; simp [Op.operands, Call.operands])
    have has := agree_list as.toList (fun y hy => hop y (by rw [ho]; simp [Op.operands, Call.operands]; right; simpa using hy))
    rw [← hx, ← has]
    exact h
  · rename_i hno
    have := agree_aop (P := P) (md := false) (σ := σ) hop
    rw [← this]
    exact h
theorem EStep.run {ops : Array Oper} {o : Oper} {σ σ' : Sto} {env : Env} {v : AV} (hg : o.guard = none) (h : EStep P Γ σ env o v σ') : ARun P Γ false ops (fun e s => (∃ u, Weaker u v ∧ e = aput env o.dst u) ∧ s = σ') [o] env σ := by
  unfold EStep at h
  unfold ARun
  rw [want_none hg]
  simp only
  split at h
  · rename_i x as ts ho
    simp only [ho]
    split at h
    · rename_i f caps hx
      simp only [hx]
      exact ⟨_, h.1, h.2, fun v' σ' e => by rw [e.1, e.2]; exact ⟨⟨v, .refl v, rfl⟩, rfl⟩⟩
    · exact h.elim
  · rename_i hno
    split
    · rename_i x as ts ho
      exact absurd ho (hno x as ts)
    · obtain ⟨u, h1, h2⟩ := h
      rw [h1]
      exact ⟨⟨u, h2, rfl⟩, rfl⟩
abbrev Bd := List (Nat × Nat × Bool)
/-- A run, each operation with what it is worth: TT are the stores, one behind each writing step; bd: between which stores an operation that turns nothing may come. -/
inductive XTr (P : Program) (Γ : List (Nat × List AV)) (TT : List Sto) : Nat → Bd → List Oper → Env → List AV → Env → Prop
  | nil {c : Nat} {bd : Bd} {x : Env} : XTr P Γ TT c bd [] x [] x
  | quiet {c lo hi : Nat} {bd : Bd} {o : Oper} {l : List Oper} {x y : Env} {v : AV} {ws : List AV} : (∀ s ∈ (TT.drop lo).take (hi + 1 - lo), EStep P Γ s x o v s) → XTr P Γ TT c bd l (aput x o.dst v) ws y → XTr P Γ TT c ((lo, hi, true) :: bd) (o :: l) x (v :: ws) y
  | eff {c lo hi : Nat} {bd : Bd} {o : Oper} {l : List Oper} {x y : Env} {v : AV} {ws : List AV} : EStep P Γ (TT.getD c []) x o v (TT.getD (c + 1) []) → XTr P Γ TT (c + 1) bd l (aput x o.dst v) ws y → XTr P Γ TT c ((lo, hi, false) :: bd) (o :: l) x (v :: ws) y
def eF (bd : Bd) (i : Nat) : Bool := match bd[i]? with
  | some (_, _, q) => !q
  | none => false
def cnt (bd : Bd) (i : Nat) : Nat := (List.range i).countP (eF bd)
theorem cnt_succ (bd : Bd) (i : Nat) : cnt bd (i + 1) = cnt bd i + if eF bd i = true then 1 else 0 := by
  unfold cnt
  rw [List.range_succ, List.countP_append]
  simp only [List.countP_cons, List.countP_nil, Nat.zero_add]
theorem cnt_mono (bd : Bd) {i j : Nat} (h : i ≤ j) : cnt bd i ≤ cnt bd j := by
  induction j with
  | zero => rw [show i = 0 by omega]; exact Nat.le_refl _
  | succ j ih =>
    rcases Nat.eq_or_lt_of_le h with rfl | h
    · exact Nat.le_refl _
    · have := ih (by omega)
      rw [cnt_succ]
      omega
theorem cnt_last (bd : Bd) : ∀ (u : Nat), 0 < cnt bd u → ∃ e, e < u ∧ eF bd e = true ∧ cnt bd u = cnt bd e + 1
  | 0, h => by simp [cnt] at h
  | u + 1, h => by
    by_cases he : eF bd u = true
    · exact ⟨u, by omega, he, by rw [cnt_succ, if_pos he]⟩
    · rw [cnt_succ, if_neg he] at h
      obtain ⟨e, h1, h2, h3⟩ := cnt_last bd u (by omega)
      exact ⟨e, by omega, h2, by rw [cnt_succ, if_neg he]; omega⟩
theorem nextF (bd : Bd) (n s : Nat) (hs : s ≤ n) : ∃ u, s ≤ u ∧ u ≤ n ∧ (∀ e, s ≤ e → e < u → eF bd e = false) ∧ (u = n ∨ eF bd u = true) := by
  by_cases h : ∃ i, s ≤ i ∧ i < n ∧ eF bd i = true
  · obtain ⟨i, h1, h2, h3⟩ := h
    obtain ⟨k, k1, k2, k3, k4⟩ := least (L := fun j => !eF bd j) (s := s) (m := n - s) i h1 (by omega) (by simp [h3])
    exact ⟨k, k1, by omega, fun e he hek => by simpa using k4 e he hek, .inr (by simpa using k3)⟩
  · refine ⟨n, hs, Nat.le_refl _, fun e h1 h2 => ?_, .inl rfl⟩
    cases he : eF bd e with
    | false => rfl
    | true => exact absurd ⟨e, h1, h2, he⟩ h
theorem XTr.at {ops : Array Oper} {n : Nat} {TT : List Sto} (BD : Bd) (hD : ∀ i j, i < n → j < n → j ≠ i → dstOf ops j = none ∨ dstOf ops j ≠ dstOf ops i) {vs : Nat → AV} {env : Env} {c : Nat} {bd : Bd} {l : List Oper} {x y : Env} {ws : List AV} (h : XTr P Γ TT c bd l x ws y) :
    ∀ (k : Nat), (∀ j, bd[j]? = BD[k + j]?) → c = cnt BD k → k + l.length = n → (∀ j, j < l.length → ops[k + j]? = l[j]?) → (∀ j, j < l.length → vs (k + j) = ws.getD j .any) → x = envL ops vs (fun j => decide (j < k)) (List.range n) env →
    (∀ i o, k ≤ i → i < n → ops[i]? = some o → (eF BD i = true → EStep P Γ (TT.getD (cnt BD i) []) (envL ops vs (fun j => decide (j < i)) (List.range n) env) o (vs i) (TT.getD (cnt BD i + 1) [])) ∧
      (eF BD i = false → ∃ lo hi, BD[i]? = some (lo, hi, true) ∧ ∀ s ∈ (TT.drop lo).take (hi + 1 - lo), EStep P Γ s (envL ops vs (fun j => decide (j < i)) (List.range n) env) o (vs i) s)) ∧ y = envL ops vs (fun j => decide (j < n)) (List.range n) env := by
  have key : ∀ {k : Nat} {o : Oper} {x : Env} {v : AV} (_ : ops[k]? = some o) (_ : vs k = v) (_ : k < n), x = envL ops vs (fun j => decide (j < k)) (List.range n) env → aput x o.dst v = envL ops vs (fun j => decide (j < k + 1)) (List.range n) env := by
    intro k o x v ho hvk hk hx
    have hdk : dstOf ops k = o.dst := by simp [dstOf, ho]
    rw [hx, ← hvk, ← hdk]
    refine (envL_set (L := fun j => decide (j < k)) (L' := fun j => decide (j < k + 1)) (by simp) (by simp) _ _ (List.mem_range.2 (by omega)) List.nodup_range (fun j _ hne => ?_) (fun j hj hne => hD k j (by omega) (List.mem_range.1 hj) hne)).symm
    have : (j < k + 1) = (j < k) := by
      apply propext
      constructor <;> intro _ <;> omega
    simp [this]
  induction h with
  | nil =>
    intro k _ _ hk _ _ hx
    refine ⟨fun i o h1 h2 => by simp at hk; omega, ?_⟩
    simp only [List.length_nil, Nat.add_zero] at hk
    rw [hx, hk]
  | @quiet c lo hi bd o l x y v ws ha _ ih =>
    intro k hbd hc hk hl hv hx
    simp only [List.length_cons] at hk hl hv
    have ho : ops[k]? = some o := by simpa using hl 0 (by omega)
    have hvk : vs k = v := by simpa using hv 0 (by omega)
    have hb0 : BD[k]? = some (lo, hi, true) := by simpa using (hbd 0).symm
    have hke : eF BD k = false := by simp [eF, hb0]
    obtain ⟨r1, r2⟩ := ih (k + 1) (fun j => by have := hbd (j + 1); simpa [Nat.add_assoc, Nat.add_comm 1 j] using this) (by rw [cnt_succ, hke]; simpa using hc) (by omega)
      (fun j hj => by have := hl (j + 1) (by omega); simpa [Nat.add_assoc, Nat.add_comm 1 j] using this)
      (fun j hj => by have := hv (j + 1) (by omega); simpa [Nat.add_assoc, Nat.add_comm 1 j] using this)
      (key ho hvk (by omega) hx)
    refine ⟨fun i o' g1 g2 g3 => ?_, r2⟩
    rcases Nat.eq_or_lt_of_le g1 with rfl | g1
    · rw [ho] at g3
      cases g3
      refine ⟨fun h => (by rw [hke] at h; cases h), fun _ => ⟨lo, hi, hb0, ?_⟩⟩
      rw [← hx, hvk]
      exact ha
    · exact r1 i o' g1 g2 g3
  | @eff c lo hi bd o l x y v ws ha _ ih =>
    intro k hbd hc hk hl hv hx
    simp only [List.length_cons] at hk hl hv
    have ho : ops[k]? = some o := by simpa using hl 0 (by omega)
    have hvk : vs k = v := by simpa using hv 0 (by omega)
    have hb0 : BD[k]? = some (lo, hi, false) := by simpa using (hbd 0).symm
    have hke : eF BD k = true := by simp [eF, hb0]
    obtain ⟨r1, r2⟩ := ih (k + 1) (fun j => by have := hbd (j + 1); simpa [Nat.add_assoc, Nat.add_comm 1 j] using this) (by rw [cnt_succ, if_pos hke, hc]) (by omega)
      (fun j hj => by have := hl (j + 1) (by omega); simpa [Nat.add_assoc, Nat.add_comm 1 j] using this)
      (fun j hj => by have := hv (j + 1) (by omega); simpa [Nat.add_assoc, Nat.add_comm 1 j] using this)
      (key ho hvk (by omega) hx)
    refine ⟨fun i o' g1 g2 g3 => ?_, r2⟩
    rcases Nat.eq_or_lt_of_le g1 with rfl | g1
    · rw [ho] at g3
      cases g3
      refine ⟨fun _ => ?_, fun h => (by rw [hke] at h; cases h)⟩
      rw [← hx, hvk, ← hc]
      exact ha
    · exact r1 i o' g1 g2 g3
/-- What writes is chained; each other operation, by its bounds. -/
def chainB (ops : Array Oper) (bd : Bd) : Bool :=
  let M := ancL .any ops.toList []
  let R := List.range ops.size
  let E := R.filter (eF bd)
  blockB .any ops 0 ops.size && decide (bd.length = ops.size) &&
  (R.all fun i => match ops[i]? with
    | some o => o.guard.isNone
    | none => false) &&
  (E.all fun e => E.all fun e' => !decide (e < e') || (M.getD e' 0).testBit e) &&
  (R.all fun p => eF bd p || match bd[p]? with
    | some (lo, hi, _) => decide (lo ≤ cnt bd ops.size) && E.all fun e => (!decide (cnt bd e < lo) || (M.getD p 0).testBit e) && (!decide (hi ≤ cnt bd e) || (M.getD e 0).testBit p)
    | none => false)
structure ChainS (ops : Array Oper) (bd : Bd) : Prop where
  blk : BlockS .any ops 0 ops.size
  plain : ∀ (i : Nat) (o : Oper), ops[i]? = some o → o.guard = none
  chain : ∀ e e', e < ops.size → e' < ops.size → eF bd e = true → eF bd e' = true → e < e' → Anc .any ops e' e
  bnd : ∀ (p : Nat) (lo hi : Nat) (q : Bool), p < ops.size → eF bd p = false → bd[p]? = some (lo, hi, q) → lo ≤ cnt bd ops.size ∧ ∀ e, e < ops.size → eF bd e = true → (cnt bd e < lo → Anc .any ops p e) ∧ (hi ≤ cnt bd e → Anc .any ops e p)
theorem chainB_spec {ops : Array Oper} {bd : Bd} (h : chainB ops bd = true) : ChainS ops bd := by
  unfold chainB at h
  simp only [Bool.and_eq_true] at h
  obtain ⟨⟨⟨⟨h1, h0⟩, h2⟩, h3⟩, h4⟩ := h
  have hanc := ancL_spec (dm := .any) (ops := ops) ops.toList [] (by simp) (fun i j hb => by simp at hb)
  have hmem : ∀ e, e < ops.size → eF bd e = true → e ∈ (List.range ops.size).filter (eF bd) := fun e h1 h2 => List.mem_filter.2 ⟨List.mem_range.2 h1, h2⟩
  refine ⟨blockB_spec h1, fun i o ho => ?_, fun e e' he he' i1 i2 hlt => ?_, fun p lo hi q hp hpe hb => ?_⟩
  · have hi := (Array.getElem?_eq_some_iff.1 ho).1
    have := List.all_eq_true.1 h2 i (List.mem_range.2 hi)
    simp only [ho] at this
    simpa using this
  · have := List.all_eq_true.1 h3 e (hmem e he i1)
    have := List.all_eq_true.1 this e' (hmem e' he' i2)
    simp only [hlt, decide_true, Bool.not_true, Bool.false_or] at this
    exact hanc _ _ this
  · have := List.all_eq_true.1 h4 p (List.mem_range.2 hp)
    simp only [hpe, Bool.false_or, hb, Bool.and_eq_true, decide_eq_true_eq] at this
    refine ⟨this.1, fun e he hee => ?_⟩
    have := List.all_eq_true.1 this.2 e (hmem e he hee)
    simp only [Bool.and_eq_true, Bool.or_eq_true, Bool.not_eq_true', decide_eq_false_iff_not] at this
    exact ⟨fun h => hanc _ _ (this.1.resolve_left (fun n => n h)), fun h => hanc _ _ (this.2.resolve_left (fun n => n h))⟩
theorem ADraw.chain {bd : Bd} {TT : List Sto} {env y : Env} {σ : Sto} {K : Env → Sto → Prop} {l : List Oper} {ws : List AV} (hb : chainB l.toArray bd = true) (hT : cnt bd l.length + 1 = TT.length) (hT0 : TT.getD 0 [] = σ) (htr : XTr P Γ TT 0 bd l env ws y) (hk : K y (TT.getD (cnt bd l.length) [])) : ADraw F P Γ l.toArray 0 l env σ K := by
  intro C act Q fuel listed hs hsz hL hf hl hd hq
  have hM := chainB_spec hb
  have hB := hM.blk
  have hn : l.toArray.size = l.length := by simp
  let n := l.length
  let vs : Nat → AV := fun i => ws.getD i .any
  let R := List.range n
  let S : Nat → Sto := fun i => TT.getD (cnt bd i) []
  have hdist : ∀ i j, i < n → j < n → j ≠ i → dstOf l.toArray j = none ∨ dstOf l.toArray j ≠ dstOf l.toArray i := fun i j hi hj hne => hB.dist i j (Nat.zero_le _) (by omega) (Nat.zero_le _) (by omega) hne
  have hstart : envL l.toArray vs (fun j => decide (j < 0)) R env = env := by
    have : ∀ (l' : List Nat) (x : Env), envL l.toArray vs (fun j => decide (j < 0)) l' x = x := by
      intro l'
      induction l' with
      | nil => intro x; rfl
      | cons j l' ih =>
        intro x
        simp only [envL, Nat.not_lt_zero, decide_false, Bool.false_eq_true, if_false]
        exact ih x
    exact this _ _
  have hc0 : cnt bd 0 = 0 := rfl
  obtain ⟨hAt, hy⟩ := htr.at bd hdist (vs := vs) (env := env) 0 (fun j => by rw [Nat.zero_add]) hc0.symm (by simp [n]) (fun j _ => by simp) (fun j _ => by simp [vs]) hstart.symm
  have hS00 : S 0 = σ := hT0
  have hSn : S n = TT.getD (cnt bd l.length) [] := rfl
  have hquiet : ∀ i, eF bd i = false → S (i + 1) = S i := by
    intro i he
    simp only [S, cnt_succ, he]
    rfl
  have hSE : ∀ i, eF bd i = true → S (i + 1) = TT.getD (cnt bd i + 1) [] := by
    intro i he
    simp only [S, cnt_succ, if_pos he]
  have hSq : ∀ j i, i ≤ j → j ≤ n → (∀ e, i ≤ e → e < j → eF bd e = false) → S j = S i := by
    intro j
    induction j with
    | zero => intro i hi _ _; rw [show i = 0 by omega]
    | succ j ih =>
      intro i hi hj he
      rcases Nat.eq_or_lt_of_le hi with rfl | hlt
      · rfl
      · rw [hquiet j (he j (by omega) (by omega)), ih i (by omega) (by omega) fun e h1 h2 => he e h1 (by omega)]
  have main : ∀ (fuel : Nat) (listed : Array Bool) (act : Act) (D : Ctx) (u : Nat), Ext C D → u ≤ n → (∀ e, e < u → eF bd e = true → isL listed e = true) → (∀ e, u ≤ e → e < n → eF bd e = true → isL listed e = false) → (u = n ∨ eF bd u = true) →
      Stands F Γ D act (envL l.toArray vs (isL listed) R env) (S u) → listed.size = l.toArray.size → R.countP (fun i => !isL listed i) ≤ fuel → Down .any l.toArray (isL listed) → wpAnyIn F.fence 3 P .any l.toArray Q fuel listed act D.w := by
    have fin : ∀ (fuel : Nat) (listed : Array Bool) (act : Act) (D : Ctx) (u : Nat), Ext C D → u ≤ n → (∀ e, u ≤ e → e < n → eF bd e = true → isL listed e = false) → (u = n ∨ eF bd u = true) →
        Stands F Γ D act (envL l.toArray vs (isL listed) R env) (S u) → listed.size = l.toArray.size → R.countP (fun i => !isL listed i) = 0 → wpAnyIn F.fence 3 P .any l.toArray Q fuel listed act D.w := by
      intro fuel listed act D u he hun hu2 hu3 hs hsz h0
      have hall : ∀ i ∈ R, isL listed i = true := by
        intro i hi
        have := List.countP_eq_zero.1 h0 i hi
        simpa using this
      have hu : u = n := by
        rcases hu3 with h | h
        · exact h
        · rcases Nat.eq_or_lt_of_le hun with h' | h'
          · exact h'
          · have := hu2 u (Nat.le_refl _) h' h
            rw [hall u (List.mem_range.2 h')] at this
            cases this
      have hE : envL l.toArray vs (isL listed) R env = y := by
        rw [hy]
        refine envL_congr _ _ fun j hj => ?_
        rw [hall j hj]
        have := List.mem_range.1 hj
        simp only [this, decide_true]
      rw [hE, hu, hSn] at hs
      refine wpAnyIn_done ?_ (hq .normal _ _ ((hs.post (Q := fun e env σ => e = .normal ∧ K env σ) ⟨rfl, hk⟩).trans he)) fuel
      rw [List.eq_nil_iff_forall_not_mem]
      intro i hi
      obtain ⟨g1, g2, _⟩ := (mem_ready hsz).1 hi
      rw [hall i (List.mem_range.2 (by simp only [n]; omega))] at g2
      cases g2
    intro fuel
    induction fuel with
    | zero =>
      intro listed act D u he hun hu1 hu2 hu3 hs hsz hc hd
      exact fin 0 listed act D u he hun hu2 hu3 hs hsz (by omega)
    | succ f ih =>
      intro listed act D u he hun hu1 hu2 hu3 hs hsz hc hd
      by_cases h0 : R.countP (fun i => !isL listed i) = 0
      · exact fin (f + 1) listed act D u he hun hu2 hu3 hs hsz h0
      · have hex : ∃ i, i ∈ R ∧ isL listed i = false := by
          obtain ⟨i, hi, hi'⟩ := List.countP_pos_iff.1 (Nat.pos_of_ne_zero h0)
          exact ⟨i, hi, by simpa using hi'⟩
        refine ⟨fun hr => ?_, fun i hi => ?_⟩
        · exfalso
          obtain ⟨i, hi, hi'⟩ := hex
          have hi := List.mem_range.1 hi
          obtain ⟨k, k1, k2, k3, k4⟩ := least (L := isL listed) (s := 0) (m := n) i (Nat.zero_le _) (by omega) hi'
          obtain ⟨o, ho, hed⟩ := hB.fit k (Nat.zero_le _) (by omega)
          have hkn := (Array.getElem?_eq_some_iff.1 ho).1
          have : k ∈ Region.ready .any l.toArray listed := (mem_ready hsz).2 ⟨hkn, k3, o, ho, fun e he => k4 e (Nat.zero_le _) (hed e he)⟩
          rw [hr] at this
          cases this
        · obtain ⟨g1, g2, o, ho, g3⟩ := (mem_ready hsz).1 hi
          have hin : i < n := by simp only [n]; omega
          have hiR : i ∈ R := List.mem_range.2 hin
          have hisz : i < listed.size := by omega
          have hdst : dstOf l.toArray i = o.dst := by simp only [dstOf, ho]; rfl
          have hg := hM.plain i o ho
          have hancL : ∀ j, Anc .any l.toArray i j → isL listed j = true := fun j hj => hd.anc hj (fun o' ho' => by rw [ho] at ho'; cases ho'; exact g3)
          have hancU : ∀ e, Anc .any l.toArray e i → isL listed e = false := by
            intro e he'
            cases hle : isL listed e with
            | false => rfl
            | true =>
              have := hd.anc he' (fun o' ho' e' he'' => hd e o' hle ho' e' he'')
              rw [this] at g2
              cases g2
          have hset : envL l.toArray vs (isL (listed.setIfInBounds i true)) R env = aput (envL l.toArray vs (isL listed) R env) o.dst (vs i) := by
            rw [← hdst]
            exact envL_set g2 (by rw [isL_set hisz]; simp) _ _ hiR List.nodup_range (fun j _ hne => by rw [isL_set hisz]; simp [hne]) (fun j hj hne => hdist i j hin (List.mem_range.1 hj) hne)
          have hag : Agree (o.looksAt l.toArray) (envL l.toArray vs (fun j => decide (j < i)) R env) (envL l.toArray vs (isL listed) R env) := by
            intro t ht
            refine envL_agree _ _ _ rfl rfl fun j hj hdj => ?_
            obtain ⟨q1, q2⟩ := hB.looks i j o t (Nat.zero_le _) (by omega) (Nat.zero_le _) (by have := List.mem_range.1 hj; simp only [n] at this; omega) ho hdj ht
            rw [g3 j q2]
            simp only [q1, decide_true]
          have go : ∀ (a' : Act) (E' : Ctx) (u' : Nat), Ext C E' → u' ≤ n → (∀ e, e < u' → eF bd e = true → isL (listed.setIfInBounds i true) e = true) → (∀ e, u' ≤ e → e < n → eF bd e = true → isL (listed.setIfInBounds i true) e = false) → (u' = n ∨ eF bd u' = true) →
              Stands F Γ E' a' (aput (envL l.toArray vs (isL listed) R env) o.dst (vs i)) (S u') → wpAnyIn F.fence 3 P .any l.toArray Q f (listed.setIfInBounds i true) a' E'.w := by
            intro a' E' u' he' hu1' hu2' hu3' hu4' hs'
            refine ih (listed.setIfInBounds i true) a' E' u' he' hu1' hu2' hu3' hu4' (by rw [hset]; exact hs') (by simpa using hsz) ?_ (hd.set hisz (fun o' ho' => by rw [ho] at ho'; cases ho'; exact g3))
            have := count_set (L := isL listed) (L' := isL (listed.setIfInBounds i true)) g2 (by rw [isL_set hisz]; simp) R hiR List.nodup_range (fun j hne => by rw [isL_set hisz]; simp [hne])
            omega
          obtain ⟨hAE, hAQ⟩ := hAt i o (Nat.zero_le _) hin ho
          cases hie : eF bd i with
          | true =>
            have hiu : i = u := by
              rcases Nat.lt_trichotomy i u with h | h | h
              · rw [hu1 i h hie] at g2; cases g2
              · exact h
              · have hue : eF bd u = true := by
                  rcases hu3 with h' | h'
                  · omega
                  · exact h'
                have := hancL u (hM.chain u i (by omega) (by omega) hue hie h)
                rw [hu2 u (Nat.le_refl _) (by omega) hue] at this
                cases this
            obtain ⟨u', n1, n2, n3, n4⟩ := nextF bd n (i + 1) (by omega)
            have hst := (hAE hie).agree hag
            rw [← hSE i hie] at hst
            refine step_ok ho (EStep.run hg (σ := S u) (σ' := S (i + 1)) (by rw [← hiu]; exact hst)) hs ?_
            rintro E' a' env' he' hs' ⟨⟨uu, hw, rfl⟩, hσ'⟩
            rw [hσ'] at hs'
            replace hs' : Stands F Γ E' a' (aput (envL l.toArray vs (isL listed) R env) o.dst (vs i)) _ := ⟨hs'.σ, hs'.S, hs'.G, aput_weak hw hs'.L, hs'.D⟩
            refine go a' E' u' (he.trans he') (by omega) (fun e h1 h2 => ?_) (fun e h1 h2 h3 => ?_) (by rcases n4 with h | h; exact .inl (by omega); exact .inr h) (by rw [hSq u' (i + 1) n1 (by omega) n3]; exact hs')
            · rw [isL_set hisz]
              by_cases hei : e = i
              · simp [hei]
              · by_cases hlt : e < i
                · rw [hu1 e (by omega) h2]; simp
                · rw [n3 e (by omega) h1] at h2; cases h2
            · rw [isL_set hisz, hu2 e (by omega) h2 h3]
              simp
              omega
          | false =>
            obtain ⟨lo, hi', hbd, hval⟩ := hAQ hie
            obtain ⟨hlo0, hb2⟩ := hM.bnd i lo hi' true (by omega) hie hbd
            have hlo : lo ≤ cnt bd u := by
              rcases Nat.lt_or_ge (cnt bd u) lo with h | h
              · exfalso
                rcases hu3 with h' | h'
                · rw [h', show n = l.toArray.size by simp [n]] at h
                  omega
                · have hlt : u < n := by
                    rcases Nat.eq_or_lt_of_le hun with e | e
                    · rw [e, show n = l.toArray.size by simp [n]] at h
                      omega
                    · exact e
                  have := hancL u ((hb2 u (by simp only [n] at hlt; omega) h').1 h)
                  rw [hu2 u (Nat.le_refl _) hlt h'] at this
                  cases this
              · exact h
            have hhi : cnt bd u ≤ hi' := by
              rcases Nat.lt_or_ge hi' (cnt bd u) with h | h
              · exfalso
                obtain ⟨e, e1, e2, e3⟩ := cnt_last bd u (by omega)
                have := hancU e ((hb2 e (by simp only [n] at hun; omega) e2).2 (by omega))
                rw [hu1 e e1 e2] at this
                cases this
              · exact h
            have hmem : S u ∈ (TT.drop lo).take (hi' + 1 - lo) := by
              have hle : cnt bd u ≤ cnt bd l.length := cnt_mono _ hun
              refine List.mem_of_getElem? (i := cnt bd u - lo) ?_
              rw [List.getElem?_take, if_pos (by omega), List.getElem?_drop, show lo + (cnt bd u - lo) = cnt bd u by omega]
              simp only [S, List.getD_eq_getElem?_getD]
              rw [List.getElem?_eq_getElem (by omega)]
              rfl
            have hst := hval (S u) hmem
            refine step_ok ho (EStep.run hg (hst.agree hag)) hs ?_
            rintro E' a' env' he' hs' ⟨⟨uu, hw, rfl⟩, hσ'⟩
            rw [hσ'] at hs'
            replace hs' : Stands F Γ E' a' (aput (envL l.toArray vs (isL listed) R env) o.dst (vs i)) _ := ⟨hs'.σ, hs'.S, hs'.G, aput_weak hw hs'.L, hs'.D⟩
            refine go a' E' u (he.trans he') hun (fun e h1 h2 => ?_) (fun e h1 h2 h3 => ?_) hu3 hs'
            · rw [isL_set hisz, hu1 e h1 h2]
              simp
            · rw [isL_set hisz, hu2 e h1 h2 h3]
              have hne : e ≠ i := fun h => by rw [h, hie] at h3; cases h3
              simp [hne]
  obtain ⟨u0, n1, n2, n3, n4⟩ := nextF bd n 0 (Nat.zero_le _)
  have hnone : ∀ i, i < n → isL listed i = false := fun i hi => by rw [hL i (by simp only [n] at hi; omega)]; simp
  refine main fuel listed act C u0 (Ext.refl _) (by omega) (fun e h1 h2 => ?_) (fun e _ h1 _ => hnone e h1) (by rcases n4 with h | h; exact .inl (by omega); exact .inr h) ?_ hsz ?_ hd
  · rw [n3 e (Nat.zero_le _) h1] at h2
    cases h2
  · have e1 : envL l.toArray vs (isL listed) R env = env := by
      rw [← hstart]
      have e2 : envL l.toArray vs (isL listed) R (envL l.toArray vs (fun j => decide (j < 0)) R env) = envL l.toArray vs (isL listed) R env := by rw [hstart]
      rw [e2]
      refine envL_congr _ _ fun j hj => ?_
      rw [hnone j (List.mem_range.1 hj)]
      simp
    rw [e1, hSq u0 0 (Nat.zero_le _) (by omega) n3, hS00]
    exact hs
  · have : R.countP (fun i => !isL listed i) ≤ n := by
      refine Nat.le_trans List.countP_le_length ?_
      simp [R]
    simp only [n] at this
    omega

/-! The same over functions. -/
def xRun (P : Program) (Γ : List (Nat × List AV)) (TT : List Sto) (K : FEnv → Prop) : Nat → Bd → List Oper → FEnv → Prop
  | _, _, [], fe => K fe
  | _, [], _ :: _, _ => False
  | c, (lo, hi, true) :: bd, o :: rest, fe => match o.op with
    | .call { callee := .value x, args := as, argTypes := _ } => match opndF Γ fe x with
      | .fn f caps => ∃ v, Enters P f ∧ (∀ s ∈ (TT.drop lo).take (hi + 1 - lo), ACalls P Γ f (as.toList.map (opndF Γ fe) ++ caps) s (fun v' σ' => σ' = s ∧ v' = v)) ∧ xRun P Γ TT K c bd rest (upd fe o.dst v)
      | _ => False
    | op => quietOp op = true ∧ ∃ v, (∀ r ∈ ((TT.drop lo).take (hi + 1 - lo)).map fun s => aopR P false s (opndF Γ fe) op, r.map (·.1) = some v) ∧ xRun P Γ TT K c bd rest (upd fe o.dst v)
  | c, (_, _, false) :: bd, o :: rest, fe => match o.op with
    | .call { callee := .value x, args := as, argTypes := _ } => match opndF Γ fe x with
      | .fn f caps => ∃ v, Enters P f ∧ ACalls P Γ f (as.toList.map (opndF Γ fe) ++ caps) (TT.getD c []) (fun v' σ' => σ' = TT.getD (c + 1) [] ∧ v' = v) ∧ xRun P Γ TT K (c + 1) bd rest (upd fe o.dst v)
      | _ => False
    | op => ∃ v, (∃ u, aopR P false (TT.getD c []) (opndF Γ fe) op = some (u, TT.getD (c + 1) []) ∧ Weaker u v) ∧ xRun P Γ TT K (c + 1) bd rest (upd fe o.dst v)
theorem xRun.tr {TT : List Sto} {K : FEnv → Prop} {n : Nat} {ds : List Nat} {env0 : Env} : ∀ {l : List Oper} {c : Nat} {bd : Bd} {fe : FEnv} {env : Env}, (∀ o ∈ l, ∀ t, o.dst = some t → t < n ∧ t ∈ ds) → Agr n ds env0 fe env → xRun P Γ TT K c bd l fe →
    ∃ ws y, XTr P Γ TT c bd l env ws y ∧ ∃ fe', K fe' ∧ Agr n ds env0 fe' y
  | [], c, bd, fe, env, _, ha, h => ⟨[], env, .nil, fe, by simpa [xRun] using h, ha⟩
  | o :: l, c, [], fe, env, _, _, h => h.elim
  | o :: l, c, (lo, hi, true) :: bd, fe, env, hl, ha, h => by
    have hr := fun o' h' => hl o' (List.mem_cons_of_mem _ h')
    have ho := hl o List.mem_cons_self
    have hop := opndF_eq (Γ := Γ) ha.get
    unfold xRun at h
    split at h
    · rename_i x as ts hoe
      rw [hop] at h
      split at h
      · rename_i f caps hx
        obtain ⟨v, h1, h2, h3⟩ := h
        obtain ⟨ws, y, k1, k2⟩ := xRun.tr hr (ha.upd ho v) h3
        refine ⟨v :: ws, y, .quiet (fun s hs => ?_) k1, k2⟩
        unfold EStep
        simp only [hoe, hx]
        exact ⟨h1, h2 s hs⟩
      · exact h.elim
    · rename_i hno
      obtain ⟨hq, v, h1, h2⟩ := h
      obtain ⟨ws, y, k1, k2⟩ := xRun.tr hr (ha.upd ho v) h2
      refine ⟨v :: ws, y, .quiet (fun s hs => ?_) k1, k2⟩
      have := h1 _ (List.mem_map.2 ⟨s, hs, rfl⟩)
      rw [hop, aopR_eq] at this
      obtain ⟨⟨v', s'⟩, e1, e2⟩ := Option.map_eq_some_iff.1 this
      simp only at e2
      subst e2
      have := quiet_st hq e1
      unfold EStep
      split
      · rename_i x as ts hoe
        exact absurd hoe (hno x as ts)
      · exact ⟨_, by rw [e1, this], .refl _⟩
  | o :: l, c, (lo, hi, false) :: bd, fe, env, hl, ha, h => by
    have hr := fun o' h' => hl o' (List.mem_cons_of_mem _ h')
    have ho := hl o List.mem_cons_self
    have hop := opndF_eq (Γ := Γ) ha.get
    unfold xRun at h
    split at h
    · rename_i x as ts hoe
      rw [hop] at h
      split at h
      · rename_i f caps hx
        obtain ⟨v, h1, h2, h3⟩ := h
        obtain ⟨ws, y, k1, k2⟩ := xRun.tr hr (ha.upd ho v) h3
        refine ⟨v :: ws, y, .eff ?_ k1, k2⟩
        unfold EStep
        simp only [hoe, hx]
        exact ⟨h1, h2⟩
      · exact h.elim
    · rename_i hno
      obtain ⟨v, ⟨u, h1, hw⟩, h2⟩ := h
      obtain ⟨ws, y, k1, k2⟩ := xRun.tr hr (ha.upd ho v) h2
      rw [hop, aopR_eq] at h1
      refine ⟨v :: ws, y, .eff ?_ k1, k2⟩
      unfold EStep
      split
      · rename_i x as ts hoe
        exact absurd hoe (hno x as ts)
      · exact ⟨u, h1, hw⟩
theorem xRun.mono {TT : List Sto} {K K' : FEnv → Prop} (hk : ∀ fe, K fe → K' fe) : ∀ {l : List Oper} {c : Nat} {bd : Bd} {fe : FEnv}, xRun P Γ TT K c bd l fe → xRun P Γ TT K' c bd l fe
  | [], c, bd, fe, h => by
    simp only [xRun] at h ⊢
    exact hk _ h
  | o :: l, c, [], fe, h => h.elim
  | o :: l, c, (lo, hi, true) :: bd, fe, h => by
    unfold xRun at h ⊢
    split at h
    · split at h
      · obtain ⟨v, h1, h2, h3⟩ := h
        exact ⟨v, h1, h2, xRun.mono hk h3⟩
      · exact h.elim
    · obtain ⟨h0, v, h1, h2⟩ := h
      exact ⟨h0, v, h1, xRun.mono hk h2⟩
  | o :: l, c, (lo, hi, false) :: bd, fe, h => by
    unfold xRun at h ⊢
    split at h
    · split at h
      · obtain ⟨v, h1, h2, h3⟩ := h
        exact ⟨v, h1, h2, xRun.mono hk h3⟩
      · exact h.elim
    · obtain ⟨v, h1, h2⟩ := h
      exact ⟨v, h1, xRun.mono hk h2⟩
def xL (P : Program) (Γ : List (Nat × List AV)) (TT : List Sto) (K : FEnv → Prop) (c : Nat) (bd : Bd) (rs : List (Option (AV × Sto))) (d : Option Tmp) (rest : List Oper) (fe : FEnv) : Prop := ∃ v, (∀ r ∈ rs, r.map (·.1) = some v) ∧ xRun P Γ TT K c bd rest (upd fe d v)
def xE (P : Program) (Γ : List (Nat × List AV)) (TT : List Sto) (K : FEnv → Prop) (c : Nat) (bd : Bd) (r : Option (AV × Sto)) (t : Sto) (d : Option Tmp) (rest : List Oper) (fe : FEnv) : Prop := ∃ v, (∃ u, r = some (u, t) ∧ Weaker u v) ∧ xRun P Γ TT K (c + 1) bd rest (upd fe d v)
def xC (P : Program) (Γ : List (Nat × List AV)) (TT : List Sto) (K : FEnv → Prop) (c : Nat) (bd : Bd) (x : AV) (as : List AV) (a b : Sto) (d : Option Tmp) (rest : List Oper) (fe : FEnv) : Prop := match x with
  | .fn f caps => ∃ v, Enters P f ∧ ACalls P Γ f (as ++ caps) a (fun v' σ' => σ' = b ∧ v' = v) ∧ xRun P Γ TT K (c + 1) bd rest (upd fe d v)
  | _ => False
def xQ (P : Program) (Γ : List (Nat × List AV)) (TT : List Sto) (K : FEnv → Prop) (c : Nat) (bd : Bd) (x : AV) (as : List AV) (ss : List Sto) (d : Option Tmp) (rest : List Oper) (fe : FEnv) : Prop := match x with
  | .fn f caps => ∃ v, Enters P f ∧ (∀ s ∈ ss, ACalls P Γ f (as ++ caps) s (fun v' σ' => σ' = s ∧ v' = v)) ∧ xRun P Γ TT K c bd rest (upd fe d v)
  | _ => False
def xO (P : Program) (Γ : List (Nat × List AV)) (TT : List Sto) (K : FEnv → Prop) (c : Nat) (bd : Bd) (q : Bool) (ss : List Sto) (a b : Sto) (op : Op) (d : Option Tmp) (rest : List Oper) (fe : FEnv) : Prop := match q with
  | true => match op with
    | .call { callee := .value x, args := as, argTypes := _ } => xQ P Γ TT K c bd (opndF Γ fe x) (as.toList.map (opndF Γ fe)) ss d rest fe
    | op => quietOp op = true ∧ xL P Γ TT K c bd (ss.map fun s => aopR P false s (opndF Γ fe) op) d rest fe
  | false => match op with
    | .call { callee := .value x, args := as, argTypes := _ } => xC P Γ TT K c bd (opndF Γ fe x) (as.toList.map (opndF Γ fe)) a b d rest fe
    | op => xE P Γ TT K c bd (aopR P false a (opndF Γ fe) op) b d rest fe
theorem xRun_nil (TT : List Sto) (K : FEnv → Prop) (c : Nat) (bd : Bd) (fe : FEnv) : xRun P Γ TT K c bd [] fe = K fe := by simp [xRun]
theorem xRun_cons (TT : List Sto) (K : FEnv → Prop) (c lo hi : Nat) (q : Bool) (bd : Bd) (dd : Option Tmp) (op : Op) (ty : TypeId) (pos : String) (af : Array Edge) (g : Option (Nat × Bool)) (rest : List Oper) (fe : FEnv) :
    xRun P Γ TT K c ((lo, hi, q) :: bd) (⟨dd, op, ty, pos, af, g⟩ :: rest) fe = xO P Γ TT K c bd q ((TT.drop lo).take (hi + 1 - lo)) (TT.getD c []) (TT.getD (c + 1) []) op dd rest fe := by
  cases q
  · unfold xRun xO xC xE
    rfl
  · unfold xRun xO xQ xL
    rfl
theorem xL_one (TT : List Sto) (K : FEnv → Prop) (c : Nat) (bd : Bd) (v : AV) (s : Sto) (d : Option Tmp) (rest : List Oper) (fe : FEnv) : xL P Γ TT K c bd [some (v, s)] d rest fe = xRun P Γ TT K c bd rest (upd fe d v) := by
  simp [xL]
theorem xL_more (TT : List Sto) (K : FEnv → Prop) (c : Nat) (bd : Bd) (v v' : AV) (s s' : Sto) (rs : List (Option (AV × Sto))) (d : Option Tmp) (rest : List Oper) (fe : FEnv) : xL P Γ TT K c bd (some (v, s) :: some (v', s') :: rs) d rest fe = (v = v' ∧ xL P Γ TT K c bd (some (v', s') :: rs) d rest fe) := by
  simp only [xL, eq_iff_iff]
  constructor
  · rintro ⟨u, h1, h2⟩
    have e1 := h1 _ List.mem_cons_self
    have e2 := h1 (some (v', s')) (List.mem_cons_of_mem _ List.mem_cons_self)
    simp only [Option.map_some, Option.some.injEq] at e1 e2
    exact ⟨e1.trans e2.symm, u, fun r hr => h1 r (List.mem_cons_of_mem _ hr), h2⟩
  · rintro ⟨rfl, u, h1, h2⟩
    refine ⟨u, fun r hr => ?_, h2⟩
    rcases List.mem_cons.1 hr with rfl | hr
    · exact h1 (some (v, s')) List.mem_cons_self
    · exact h1 r hr
theorem xE.of {TT : List Sto} {K : FEnv → Prop} {c : Nat} {bd : Bd} {v : AV} {s t : Sto} {d : Option Tmp} {rest : List Oper} {fe : FEnv} (hs : s = t) (h : xRun P Γ TT K (c + 1) bd rest (upd fe d v)) : xE P Γ TT K c bd (some (v, s)) t d rest fe :=
  ⟨v, ⟨v, by rw [hs], .refl v⟩, h⟩
theorem xE.weak {TT : List Sto} {K : FEnv → Prop} {c : Nat} {bd : Bd} {v : AV} {s t : Sto} {d : Option Tmp} {rest : List Oper} {fe : FEnv} (v' : AV) (hw : Weaker v v') (hs : s = t) (h : xRun P Γ TT K (c + 1) bd rest (upd fe d v')) : xE P Γ TT K c bd (some (v, s)) t d rest fe :=
  ⟨v', ⟨v, by rw [hs], hw⟩, h⟩
theorem xO_cv (TT : List Sto) (K : FEnv → Prop) (c : Nat) (bd : Bd) (ss : List Sto) (a b : Sto) (x : Operand) (as : Array Operand) (ts : Array TypeId) (d : Option Tmp) (rest : List Oper) (fe : FEnv) :
    xO P Γ TT K c bd false ss a b (.call { callee := .value x, args := as, argTypes := ts }) d rest fe = xC P Γ TT K c bd (opndF Γ fe x) (as.toList.map (opndF Γ fe)) a b d rest fe := rfl
theorem xO_qv (TT : List Sto) (K : FEnv → Prop) (c : Nat) (bd : Bd) (ss : List Sto) (a b : Sto) (x : Operand) (as : Array Operand) (ts : Array TypeId) (d : Option Tmp) (rest : List Oper) (fe : FEnv) :
    xO P Γ TT K c bd true ss a b (.call { callee := .value x, args := as, argTypes := ts }) d rest fe = xQ P Γ TT K c bd (opndF Γ fe x) (as.toList.map (opndF Γ fe)) ss d rest fe := rfl
theorem xQ.of {TT : List Sto} {K : FEnv → Prop} {c : Nat} {bd : Bd} {f : FuncId} {caps as args : List AV} {ss : List Sto} {d : Option Tmp} {rest : List Oper} {fe : FEnv} {v : AV} (hen : Enters P f) (hc : ∀ s ∈ ss, ACalls P Γ f args s (fun v' σ' => σ' = s ∧ v' = v)) (ha : as ++ caps = args) (h : xRun P Γ TT K c bd rest (upd fe d v)) :
    xQ P Γ TT K c bd (.fn f caps) as ss d rest fe := ⟨_, hen, ha ▸ hc, h⟩
theorem xC.of {TT : List Sto} {K : FEnv → Prop} {c : Nat} {bd : Bd} {f : FuncId} {caps as args : List AV} {a b : Sto} {d : Option Tmp} {rest : List Oper} {fe : FEnv} {v : AV} (hen : Enters P f) (hc : ACalls P Γ f args a (fun v' σ' => σ' = b ∧ v' = v)) (ha : as ++ caps = args) (h : xRun P Γ TT K (c + 1) bd rest (upd fe d v)) :
    xC P Γ TT K c bd (.fn f caps) as a b d rest fe := ⟨_, hen, ha ▸ hc, h⟩
theorem weak_row (nl : Bool) (sz : Nat) (es : List AV) (k : Nat) : Weaker (.slo nl sz es k) (rowAV sz nl es) := fun C x h => by
  have := h.still
  have e : AV.still (.slo nl sz es k) = rowAV sz nl es := by cases nl <;> cases es <;> rfl
  rwa [e] at this
theorem AW.ownT (t k : Nat) {n sz : Nat} {c : Code} {env : Env} {σ : Sto} {Q : Exit → Env → Sto → Prop} (ht : env[t]? = some .nilsl) (hk : σ[k]? = some (.cap n sz)) (hsz : 0 < sz) (h : AW F P Γ c (env.set t (.slo true sz [] k)) σ Q) : AW F P Γ c env σ Q :=
  fun C a hs => h C a ⟨hs.σ, hs.S, hs.G, own_at (by rw [hs.σ]; exact hk) hsz ht hs.L, hs.D⟩
theorem xO_0 (TT : List Sto) (K : FEnv → Prop) (cc : Nat) (bd : Bd) (ss : List Sto) (sa sb : Sto) (x : Operand) (dd : Option Tmp) (rest : List Oper) (fe : FEnv) : xO P Γ TT K cc bd true ss sa sb (.move x) dd rest fe = xL P Γ TT K cc bd (ss.map fun σ => (some (opndF Γ fe x, σ))) dd rest fe := by
  show (_ ∧ _) = _
  rw [show quietOp _ = true from rfl, eq_self, true_and]
  rfl
theorem xO_1 (TT : List Sto) (K : FEnv → Prop) (cc : Nat) (bd : Bd) (ss : List Sto) (sa sb : Sto) (x : Operand) (dd : Option Tmp) (rest : List Oper) (fe : FEnv) : xO P Γ TT K cc bd true ss sa sb (.assign x) dd rest fe = xL P Γ TT K cc bd (ss.map fun σ => (some (opndF Γ fe x, σ))) dd rest fe := by
  show (_ ∧ _) = _
  rw [show quietOp _ = true from rfl, eq_self, true_and]
  rfl
theorem xO_2 (TT : List Sto) (K : FEnv → Prop) (cc : Nat) (bd : Bd) (ss : List Sto) (sa sb : Sto) (T : TypeId) (dd : Option Tmp) (rest : List Oper) (fe : FEnv) : xO P Γ TT K cc bd false ss sa sb (.alloc T) dd rest fe = xE P Γ TT K cc bd (aAlloc P sa T) sb dd rest fe := rfl
theorem xO_3 (TT : List Sto) (K : FEnv → Prop) (cc : Nat) (bd : Bd) (ss : List Sto) (sa sb : Sto) (T : TypeId) (x : Operand) (dd : Option Tmp) (rest : List Oper) (fe : FEnv) : xO P Γ TT K cc bd false ss sa sb (.box T x) dd rest fe = xE P Γ TT K cc bd (aNewVar sa (opndF Γ fe x)) sb dd rest fe := rfl
theorem xO_4 (TT : List Sto) (K : FEnv → Prop) (cc : Nat) (bd : Bd) (ss : List Sto) (sa sb : Sto) (T : TypeId) (parts : Array (Nat × Operand)) (dd : Option Tmp) (rest : List Oper) (fe : FEnv) : xO P Γ TT K cc bd true ss sa sb (.build T parts) dd rest fe = xL P Γ TT K cc bd (ss.map fun σ => ((aBuild P T (parts.toList.map fun p => (p.1, opndF Γ fe p.2))).map (·, σ))) dd rest fe := by
  show (_ ∧ _) = _
  rw [show quietOp _ = true from rfl, eq_self, true_and]
  rfl
theorem xO_5 (TT : List Sto) (K : FEnv → Prop) (cc : Nat) (bd : Bd) (ss : List Sto) (sa sb : Sto) (T : TypeId) (n : Nat) (parts : Array (Nat × Operand)) (dd : Option Tmp) (rest : List Oper) (fe : FEnv) : xO P Γ TT K cc bd true ss sa sb (.buildSlice T n parts) dd rest fe = if n = 0 then False else xL P Γ TT K cc bd (ss.map fun σ => (aRow P false σ T n (parts.toList.map fun p => (p.1, opndF Γ fe p.2)))) dd rest fe := by
  show (quietOp (.buildSlice T n parts) = true ∧ _) = _
  by_cases h : n = 0
  · subst h; simp [quietOp]
  · rw [if_neg h, show quietOp (.buildSlice T n parts) = true by simpa [quietOp] using h, eq_self, true_and]
    rfl
theorem xO_50 (TT : List Sto) (K : FEnv → Prop) (cc : Nat) (bd : Bd) (ss : List Sto) (sa sb : Sto) (T : TypeId) (n : Nat) (parts : Array (Nat × Operand)) (dd : Option Tmp) (rest : List Oper) (fe : FEnv) : xO P Γ TT K cc bd false ss sa sb (.buildSlice T n parts) dd rest fe = xE P Γ TT K cc bd (aRow P false sa T n (parts.toList.map fun p => (p.1, opndF Γ fe p.2))) sb dd rest fe := rfl
theorem xO_6 (TT : List Sto) (K : FEnv → Prop) (cc : Nat) (bd : Bd) (ss : List Sto) (sa sb : Sto) (T : TypeId) (x : Operand) (dd : Option Tmp) (rest : List Oper) (fe : FEnv) : xO P Γ TT K cc bd true ss sa sb (.load T x) dd rest fe = xL P Γ TT K cc bd (ss.map fun σ => ((aLoad P σ T (opndF Γ fe x)).map (·, σ))) dd rest fe := by
  show (_ ∧ _) = _
  rw [show quietOp _ = true from rfl, eq_self, true_and]
  rfl
theorem xO_7 (TT : List Sto) (K : FEnv → Prop) (cc : Nat) (bd : Bd) (ss : List Sto) (sa sb : Sto) (T : TypeId) (a : Operand) (x : Operand) (dd : Option Tmp) (rest : List Oper) (fe : FEnv) : xO P Γ TT K cc bd false ss sa sb (.store T a x) dd rest fe = xE P Γ TT K cc bd ((aStore P sa T (opndF Γ fe x) (opndF Γ fe a)).map (.any, ·)) sb dd rest fe := rfl
theorem xO_8 (TT : List Sto) (K : FEnv → Prop) (cc : Nat) (bd : Bd) (ss : List Sto) (sa sb : Sto) (x : Operand) (dd : Option Tmp) (rest : List Oper) (fe : FEnv) : xO P Γ TT K cc bd true ss sa sb (.nilCheck x) dd rest fe = xL P Γ TT K cc bd (ss.map fun σ => (aNilC σ (opndF Γ fe x))) dd rest fe := by
  show (_ ∧ _) = _
  rw [show quietOp _ = true from rfl, eq_self, true_and]
  rfl
theorem xO_9 (TT : List Sto) (K : FEnv → Prop) (cc : Nat) (bd : Bd) (ss : List Sto) (sa sb : Sto) (c : Operand) (a : Operand) (b : Operand) (dd : Option Tmp) (rest : List Oper) (fe : FEnv) : xO P Γ TT K cc bd true ss sa sb (.pick c a b) dd rest fe = xL P Γ TT K cc bd (ss.map fun σ => (aPick σ (opndF Γ fe c) (opndF Γ fe a) (opndF Γ fe b))) dd rest fe := by
  show (_ ∧ _) = _
  rw [show quietOp _ = true from rfl, eq_self, true_and]
  rfl
theorem xO_10 (TT : List Sto) (K : FEnv → Prop) (cc : Nat) (bd : Bd) (ss : List Sto) (sa sb : Sto) (op : BinOp) (T : TypeId) (x : Operand) (y : Operand) (U : TypeId) (dd : Option Tmp) (rest : List Oper) (fe : FEnv) : xO P Γ TT K cc bd true ss sa sb (.binOp op T x y U) dd rest fe = xL P Γ TT K cc bd (ss.map fun σ => ((aBin P op T (opndF Γ fe x) (opndF Γ fe y)).map (·, σ))) dd rest fe := by
  show (_ ∧ _) = _
  rw [show quietOp _ = true from rfl, eq_self, true_and]
  rfl
theorem xO_11 (TT : List Sto) (K : FEnv → Prop) (cc : Nat) (bd : Bd) (ss : List Sto) (sa sb : Sto) (op : UnOp) (T : TypeId) (x : Operand) (dd : Option Tmp) (rest : List Oper) (fe : FEnv) : xO P Γ TT K cc bd true ss sa sb (.unOp op T x) dd rest fe = xL P Γ TT K cc bd (ss.map fun σ => ((aUn op (opndF Γ fe x)).map (·, σ))) dd rest fe := by
  show (_ ∧ _) = _
  rw [show quietOp _ = true from rfl, eq_self, true_and]
  rfl
theorem xO_12 (TT : List Sto) (K : FEnv → Prop) (cc : Nat) (bd : Bd) (ss : List Sto) (sa sb : Sto) (s : TypeId) (d : TypeId) (x : Operand) (dd : Option Tmp) (rest : List Oper) (fe : FEnv) : xO P Γ TT K cc bd true ss sa sb (.convert s d x) dd rest fe = xL P Γ TT K cc bd (ss.map fun σ => (aConv P σ s d (opndF Γ fe x))) dd rest fe := by
  show (_ ∧ _) = _
  rw [show quietOp _ = true from rfl, eq_self, true_and]
  rfl
theorem xO_13 (TT : List Sto) (K : FEnv → Prop) (cc : Nat) (bd : Bd) (ss : List Sto) (sa sb : Sto) (f : FuncId) (caps : Array Operand) (dd : Option Tmp) (rest : List Oper) (fe : FEnv) : xO P Γ TT K cc bd false ss sa sb (.makeFunc (.func f) #[] caps) dd rest fe = xE P Γ TT K cc bd (some (.fn f (caps.toList.map (opndF Γ fe)), sa)) sb dd rest fe := rfl
theorem xO_14 (TT : List Sto) (K : FEnv → Prop) (cc : Nat) (bd : Bd) (ss : List Sto) (sa sb : Sto) (T : TypeId) (l : Operand) (c : Operand) (dd : Option Tmp) (rest : List Oper) (fe : FEnv) : xO P Γ TT K cc bd false ss sa sb (.makeSlice T l c) dd rest fe = xE P Γ TT K cc bd (aMakeSlice P sa T (opndF Γ fe l) (opndF Γ fe c)) sb dd rest fe := rfl
theorem xO_15 (TT : List Sto) (K : FEnv → Prop) (cc : Nat) (bd : Bd) (ss : List Sto) (sa sb : Sto) (T : TypeId) (x : Operand) (lo : Option Operand) (hi : Option Operand) (dd : Option Tmp) (rest : List Oper) (fe : FEnv) : xO P Γ TT K cc bd true ss sa sb (.slice T x lo hi none) dd rest fe = xL P Γ TT K cc bd (ss.map fun σ => ((aSlice P T (opndF Γ fe x) (lo.map (opndF Γ fe)) (hi.map (opndF Γ fe))).map (·, σ))) dd rest fe := by
  show (_ ∧ _) = _
  rw [show quietOp _ = true from rfl, eq_self, true_and]
  rfl
theorem xO_16 (TT : List Sto) (K : FEnv → Prop) (cc : Nat) (bd : Bd) (ss : List Sto) (sa sb : Sto) (S : TypeId) (x : Operand) (f : Nat) (dd : Option Tmp) (rest : List Oper) (fe : FEnv) : xO P Γ TT K cc bd true ss sa sb (.fieldAddr S x f) dd rest fe = xL P Γ TT K cc bd (ss.map fun σ => ((aFieldAddr P S f (opndF Γ fe x)).map (·, σ))) dd rest fe := by
  show (_ ∧ _) = _
  rw [show quietOp _ = true from rfl, eq_self, true_and]
  rfl
theorem xO_17 (TT : List Sto) (K : FEnv → Prop) (cc : Nat) (bd : Bd) (ss : List Sto) (sa sb : Sto) (S : TypeId) (x : Operand) (f : Nat) (dd : Option Tmp) (rest : List Oper) (fe : FEnv) : xO P Γ TT K cc bd true ss sa sb (.field S x f) dd rest fe = xL P Γ TT K cc bd (ss.map fun σ => ((aField P S f (opndF Γ fe x)).map (·, σ))) dd rest fe := by
  show (_ ∧ _) = _
  rw [show quietOp _ = true from rfl, eq_self, true_and]
  rfl
theorem xO_18 (TT : List Sto) (K : FEnv → Prop) (cc : Nat) (bd : Bd) (ss : List Sto) (sa sb : Sto) (T : TypeId) (x : Operand) (i : Operand) (dd : Option Tmp) (rest : List Oper) (fe : FEnv) : xO P Γ TT K cc bd true ss sa sb (.indexAddr T x i) dd rest fe = xL P Γ TT K cc bd (ss.map fun σ => ((aIndexAddr P T (opndF Γ fe x) (opndF Γ fe i)).map (·, σ))) dd rest fe := by
  show (_ ∧ _) = _
  rw [show quietOp _ = true from rfl, eq_self, true_and]
  rfl
theorem xO_19 (TT : List Sto) (K : FEnv → Prop) (cc : Nat) (bd : Bd) (ss : List Sto) (sa sb : Sto) (T : TypeId) (x : Operand) (i : Operand) (dd : Option Tmp) (rest : List Oper) (fe : FEnv) : xO P Γ TT K cc bd true ss sa sb (.index T x i) dd rest fe = xL P Γ TT K cc bd (ss.map fun σ => ((aIndex P T (opndF Γ fe x) (opndF Γ fe i)).map (·, σ))) dd rest fe := by
  show (_ ∧ _) = _
  rw [show quietOp _ = true from rfl, eq_self, true_and]
  rfl
theorem xO_20 (TT : List Sto) (K : FEnv → Prop) (cc : Nat) (bd : Bd) (ss : List Sto) (sa sb : Sto) (t : Operand) (ix : Nat) (dd : Option Tmp) (rest : List Oper) (fe : FEnv) : xO P Γ TT K cc bd true ss sa sb (.extract t ix) dd rest fe = xL P Γ TT K cc bd (ss.map fun σ => ((aExtract ix (opndF Γ fe t)).map (·, σ))) dd rest fe := by
  show (_ ∧ _) = _
  rw [show quietOp _ = true from rfl, eq_self, true_and]
  rfl
theorem xO_len (TT : List Sto) (K : FEnv → Prop) (cc : Nat) (bd : Bd) (ss : List Sto) (sa sb : Sto) (args : Array Operand) (ts : Array TypeId) (dd : Option Tmp) (rest : List Oper) (fe : FEnv) : xO P Γ TT K cc bd true ss sa sb (.call { callee := .builtin .len, args := args, argTypes := ts }) dd rest fe = xL P Γ TT K cc bd (ss.map fun σ => (aBuiltin P false σ .len ts.toList (args.toList.map (opndF Γ fe)))) dd rest fe := by
  show (_ ∧ _) = _
  rw [show quietOp _ = true from rfl, eq_self, true_and]
  rfl
theorem xO_append (TT : List Sto) (K : FEnv → Prop) (cc : Nat) (bd : Bd) (ss : List Sto) (sa sb : Sto) (args : Array Operand) (ts : Array TypeId) (dd : Option Tmp) (rest : List Oper) (fe : FEnv) : xO P Γ TT K cc bd false ss sa sb (.call { callee := .builtin .append, args := args, argTypes := ts }) dd rest fe = xE P Γ TT K cc bd (aBuiltin P false sa .append ts.toList (args.toList.map (opndF Γ fe))) sb dd rest fe := rfl
theorem xO_22 (TT : List Sto) (K : FEnv → Prop) (cc : Nat) (bd : Bd) (ss : List Sto) (sa sb : Sto) (T : TypeId) (dd : Option Tmp) (rest : List Oper) (fe : FEnv) : xO P Γ TT K cc bd false ss sa sb (.makeMap T none) dd rest fe = xE P Γ TT K cc bd (aMakeMap sa) sb dd rest fe := rfl
theorem xO_23 (TT : List Sto) (K : FEnv → Prop) (cc : Nat) (bd : Bd) (ss : List Sto) (sa sb : Sto) (T : TypeId) (x k : Operand) (ok : Bool) (dd : Option Tmp) (rest : List Oper) (fe : FEnv) : xO P Γ TT K cc bd true ss sa sb (.lookup T x k ok) dd rest fe = xL P Γ TT K cc bd (ss.map fun σ => ((aLookup P σ T ok (opndF Γ fe x) (opndF Γ fe k)).map (·, σ))) dd rest fe := by
  show (_ ∧ _) = _
  rw [show quietOp _ = true from rfl, eq_self, true_and]
  rfl
theorem xO_24 (TT : List Sto) (K : FEnv → Prop) (cc : Nat) (bd : Bd) (ss : List Sto) (sa sb : Sto) (T : TypeId) (m k : Operand) (dd : Option Tmp) (rest : List Oper) (fe : FEnv) : xO P Γ TT K cc bd false ss sa sb (.mapEntry T m k) dd rest fe = xE P Γ TT K cc bd (aMapEntry P sa T (opndF Γ fe m) (opndF Γ fe k)) sb dd rest fe := rfl
theorem xO_25 (TT : List Sto) (K : FEnv → Prop) (cc : Nat) (bd : Bd) (ss : List Sto) (sa sb : Sto) (T : TypeId) (m s x : Operand) (dd : Option Tmp) (rest : List Oper) (fe : FEnv) : xO P Γ TT K cc bd false ss sa sb (.entryStore T m s x) dd rest fe = xE P Γ TT K cc bd ((aEntryStore sa (opndF Γ fe m) (opndF Γ fe s) (opndF Γ fe x)).map (.any, ·)) sb dd rest fe := rfl
theorem xO_26 (TT : List Sto) (K : FEnv → Prop) (cc : Nat) (bd : Bd) (ss : List Sto) (sa sb : Sto) (T : TypeId) (m k x : Operand) (dd : Option Tmp) (rest : List Oper) (fe : FEnv) : xO P Γ TT K cc bd false ss sa sb (.mapUpdate T m k x) dd rest fe = xE P Γ TT K cc bd ((aMapUpd P sa T (opndF Γ fe m) (opndF Γ fe k) (opndF Γ fe x)).map (.any, ·)) sb dd rest fe := rfl
theorem AW.drawch (hm : P.follows .mixedOrders = true) (TT : List Sto) (bd : Bd) {ts : List Nat} {id : Nat} {l : List Oper} {env : Env} {σ : Sto} {Q : Exit → Env → Sto → Prop} (hb : chainB l.toArray bd = true) (hk : keepB l env ts = true) (hT : decide (cnt bd l.length + 1 = TT.length) = true) (hT0 : TT.getD 0 [] = σ)
    (h : xRun P Γ TT (fun fe' => ∀ env', Wk env' (setAll env ts fe') → Q .normal env' (TT.getLastD [])) 0 bd l (fun t => env.getD t .any)) : AW F P Γ (.region id l.toArray true) env σ Q := by
  refine AW.draw hm ?_
  have hT := of_decide_eq_true hT
  obtain ⟨ws, y, h1, fe', h2, h3⟩ := xRun.tr (keepB_dst hk) (Agr.start env (dstsOf l)) h
  refine ADraw.chain hb hT hT0 h1 ?_
  have hl : TT.getD (cnt bd l.length) [] = TT.getLastD [] := by
    rw [List.getD_eq_getElem?_getD, List.getLastD_eq_getLast?, List.getLast?_eq_getElem?]
    congr 2
    omega
  rw [hl]
  exact h2 _ (h3.wk hk)
/-- A drawn region whose calls and writings come in one order: TT are the stores, one behind the other. -/
theorem AW.regch (hm : P.follows .mixedOrders = true) (TT : List Sto) (bd : Bd) (ts : List Nat) {id : Nat} {l : List Oper} {y : Code} {env : Env} {σ : Sto} {Q : Exit → Env → Sto → Prop} (hb : chainB l.toArray bd = true) (hk : keepB l env ts = true) (hT : decide (cnt bd l.length + 1 = TT.length) = true) (hT0 : TT.getD 0 [] = σ)
    (h : ∀ K : List AV → Prop, (∀ vs, AW F P Γ y (setL env ts vs) (TT.getLastD []) Q → K vs) → xRun P Γ TT (fun fe => K (ts.map fe)) 0 bd l (fun t => env.getD t .any)) : AW F P Γ (.seq (.region id l.toArray true) y) env σ Q := by
  refine AW.seq (AW.drawch hm TT bd hb hk hT hT0 ?_)
  have := h (fun vs => ∀ fe, vs = ts.map fe → ∀ env', Wk env' (setAll env ts fe) → AW F P Γ y env' (TT.getLastD []) Q) (fun vs hy fe e env' hw => AW.weaken hw (by rw [← setL_map, ← e]; exact hy))
  exact xRun.mono (fun fe' hh env' hw => hh fe' rfl env' hw) this
theorem AW.lastch (hm : P.follows .mixedOrders = true) (TT : List Sto) (bd : Bd) (ts : List Nat) {id : Nat} {l : List Oper} {env : Env} {σ : Sto} {Q : Exit → Env → Sto → Prop} (hb : chainB l.toArray bd = true) (hk : keepB l env ts = true) (hT : decide (cnt bd l.length + 1 = TT.length) = true) (hT0 : TT.getD 0 [] = σ)
    (h : ∀ K : List AV → Prop, (∀ vs, (∀ env', Wk env' (setL env ts vs) → Q .normal env' (TT.getLastD [])) → K vs) → xRun P Γ TT (fun fe => K (ts.map fe)) 0 bd l (fun t => env.getD t .any)) : AW F P Γ (.region id l.toArray true) env σ Q := by
  refine AW.drawch hm TT bd hb hk hT hT0 ?_
  have := h (fun vs => ∀ fe, vs = ts.map fe → ∀ env', Wk env' (setAll env ts fe) → Q .normal env' (TT.getLastD [])) (fun vs hy fe e env' hw => hy env' (by rw [e, setL_map]; exact hw))
  exact xRun.mono (fun fe' hh env' hw => hh fe' rfl env' hw) this
attribute [go_sem] xRun_nil xRun_cons xL_one xL_more xO_cv xO_qv xO_0 xO_1 xO_2 xO_3 xO_4 xO_5 xO_50 xO_6 xO_7 xO_8 xO_9 xO_10 xO_11 xO_12 xO_13 xO_14 xO_15 xO_16 xO_17 xO_18 xO_19 xO_20 xO_len xO_append xO_22 xO_23 xO_24 xO_25 xO_26 List.drop_succ_cons List.drop_zero List.take_succ_cons List.take_zero List.map_cons List.map_nil getD_cons0
end Go.Proofs.Ev

