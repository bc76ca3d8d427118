import Derived.Test.YtnfimclkiccdhaaDoorPtEvDraw
/-! Regions whose order is drawn: whatever the order. -/
namespace Go.Proofs.Ev
set_option linter.unusedSimpArgs false
set_option linter.unusedVariables false
open Go
variable {F : Fr} {P : Program} {Γ : List (Nat × List AV)}

def edges (dm : Region.Mode) (o : Oper) : List Nat := (o.after.toList.filter (Region.binds dm)).map (·.on)
inductive Anc (dm : Region.Mode) (ops : Array Oper) : Nat → Nat → Prop
  | edge {i j : Nat} {o : Oper} : ops[i]? = some o → j ∈ edges dm o → Anc dm ops i j
  | step {i j k : Nat} {o : Oper} : ops[i]? = some o → k ∈ edges dm o → Anc dm ops k j → Anc dm ops i j
def maskOf (acc : List Nat) : List Nat → Nat
  | [] => 0
  | e :: es => 2 ^ e ||| (acc.getD e 0 ||| maskOf acc es)
theorem maskOf_spec {acc : List Nat} {j : Nat} : ∀ {es : List Nat}, (maskOf acc es).testBit j = true → ∃ e ∈ es, e = j ∨ (acc.getD e 0).testBit j = true
  | [], h => by simp [maskOf] at h
  | e :: es, h => by
    simp only [maskOf, Nat.testBit_or, Nat.testBit_two_pow, Bool.or_eq_true, decide_eq_true_eq] at h
    rcases h with h | h | h
    · exact ⟨e, List.mem_cons_self, .inl h⟩
    · exact ⟨e, List.mem_cons_self, .inr h⟩
    · obtain ⟨e', h1, h2⟩ := maskOf_spec h
      exact ⟨e', List.mem_cons_of_mem _ h1, h2⟩
def ancL (dm : Region.Mode) : List Oper → List Nat → List Nat
  | [], acc => acc
  | o :: l, acc => ancL dm l (acc ++ [maskOf acc (edges dm o)])
theorem ancL_spec {dm : Region.Mode} {ops : Array Oper} : ∀ (l : List Oper) (acc : List Nat), (∀ j, l[j]? = ops[acc.length + j]?) → (∀ i j, (acc.getD i 0).testBit j = true → Anc dm ops i j) →
    ∀ i j, ((ancL dm l acc).getD i 0).testBit j = true → Anc dm ops i j
  | [], _, _, h => h
  | o :: l, acc, hl, h => by
    have h0 : ops[acc.length]? = some o := by simpa using (hl 0).symm
    refine ancL_spec l _ (fun j => ?_) (fun i j hb => ?_)
    · have := hl (j + 1)
      simpa [Nat.add_assoc, Nat.add_comm 1 j] using this
    · rw [List.getD_eq_getElem?_getD, List.getElem?_append] at hb
      split at hb
      · exact h i j (by rw [List.getD_eq_getElem?_getD]; exact hb)
      · rename_i hlt
        have hi : i - acc.length = 0 ∨ 0 < i - acc.length := Nat.eq_zero_or_pos _
        rcases hi with hi | hi
        · have hia : i = acc.length := by omega
          rw [hi] at hb
          simp only [List.getElem?_cons_zero, Option.getD_some] at hb
          obtain ⟨e, h1, h2⟩ := maskOf_spec hb
          rw [hia]
          rcases h2 with rfl | h2
          · exact .edge h0 h1
          · exact .step h0 h1 (h e j h2)
        · rw [List.getElem?_eq_none (by simp; omega)] at hb
          simp at hb

/-- Which are listed. -/
abbrev isL (listed : Array Bool) (i : Nat) : Bool := listed.getD i false
def Down (dm : Region.Mode) (ops : Array Oper) (L : Nat → Bool) : Prop := ∀ i o, L i = true → ops[i]? = some o → ∀ e ∈ edges dm o, L e = true
theorem Down.anc {dm : Region.Mode} {ops : Array Oper} {L : Nat → Bool} (hd : Down dm ops L) {i j : Nat} (ha : Anc dm ops i j) : (∀ o, ops[i]? = some o → ∀ e ∈ edges dm o, L e = true) → L j = true := by
  induction ha with
  | edge ho hj => exact fun h => h _ ho _ hj
  | step ho hk _ ih => exact fun h => ih fun o' ho' e he => hd _ _ (h _ ho _ hk) ho' e he

def dstOf (ops : Array Oper) (i : Nat) : Option Tmp := (ops[i]?).bind (·.dst)
def envL (ops : Array Oper) (vs : Nat → AV) (L : Nat → Bool) : List Nat → Env → Env
  | [], x => x
  | i :: l, x => envL ops vs L l (if L i then aput x (dstOf ops i) (vs i) else x)
theorem aput_length (x : Env) (d : Option Tmp) (v : AV) : (aput x d v).length = x.length := by cases d <;> simp [aput]
theorem envL_agree {ops : Array Oper} {vs : Nat → AV} {L L' : Nat → Bool} {t : Tmp} : ∀ (l : List Nat) (x y : Env), x[t]? = y[t]? → x.length = y.length → (∀ i ∈ l, dstOf ops i = some t → L i = L' i) → (envL ops vs L l x)[t]? = (envL ops vs L' l y)[t]?
  | [], _, _, h, _, _ => h
  | i :: l, x, y, h, hl, ha => by
    refine envL_agree l _ _ ?_ ?_ (fun j hj => ha j (List.mem_cons_of_mem _ hj))
    · cases hd : dstOf ops i with
      | none => simp only [aput, ite_self]; exact h
      | some d =>
        by_cases hdt : d = t
        · subst hdt
          rw [ha i List.mem_cons_self hd]
          split
          · simp only [aput, List.getElem?_set]; rw [hl, h]
          · exact h
        · have e1 : ∀ z : Env, (aput z (some d) (vs i))[t]? = z[t]? := fun z => by simp [aput, List.getElem?_set, hdt]
          split <;> split <;> simp [e1, h]
    · split <;> split <;> simp [aput_length, hl]
theorem aput_comm {x : Env} {d d' : Option Tmp} {v v' : AV} (h : d = none ∨ d ≠ d') : aput (aput x d v) d' v' = aput (aput x d' v') d v := by
  cases d with
  | none => cases d' <;> rfl
  | some d =>
    cases d' with
    | none => rfl
    | some d' =>
      have hne : d ≠ d' := by
        rcases h with h | h
        · cases h
        · exact fun e => h (by rw [e])
      simp only [aput]
      exact (List.set_comm _ _ hne)
theorem envL_comm {ops : Array Oper} {vs : Nat → AV} {L : Nat → Bool} {d : Option Tmp} {v : AV} : ∀ (l : List Nat) (x : Env), (∀ j ∈ l, dstOf ops j = none ∨ dstOf ops j ≠ d) → envL ops vs L l (aput x d v) = aput (envL ops vs L l x) d v
  | [], _, _ => rfl
  | j :: l, x, h => by
    simp only [envL]
    split
    · have hj := h j List.mem_cons_self
      rw [← aput_comm hj]
      exact envL_comm l _ fun k hk => h k (List.mem_cons_of_mem _ hk)
    · exact envL_comm l _ fun k hk => h k (List.mem_cons_of_mem _ hk)
theorem envL_congr {ops : Array Oper} {vs : Nat → AV} {L L' : Nat → Bool} : ∀ (l : List Nat) (x : Env), (∀ j ∈ l, L j = L' j) → envL ops vs L l x = envL ops vs L' l x
  | [], _, _ => rfl
  | j :: l, x, h => by
    simp only [envL]
    rw [h j List.mem_cons_self]
    exact envL_congr l _ fun k hk => h k (List.mem_cons_of_mem _ hk)
theorem envL_set {ops : Array Oper} {vs : Nat → AV} {L L' : Nat → Bool} {i : Nat} (hL : L i = false) (hL' : L' i = true) : ∀ (l : List Nat) (x : Env), i ∈ l → l.Nodup → (∀ j ∈ l, j ≠ i → L' j = L j) → (∀ j ∈ l, j ≠ i → dstOf ops j = none ∨ dstOf ops j ≠ dstOf ops i) →
    envL ops vs L' l x = aput (envL ops vs L l x) (dstOf ops i) (vs i)
  | [], _, h, _, _, _ => by cases h
  | j :: l, x, hm, hn, ha, hd => by
    obtain ⟨hj, hn⟩ := List.nodup_cons.1 hn
    simp only [envL]
    by_cases hji : j = i
    · subst hji
      rw [if_pos hL', if_neg (by rw [hL]; simp)]
      rw [envL_congr (L := L') (L' := L) l _ fun k hk => ha k (List.mem_cons_of_mem _ hk) (fun e => hj (e ▸ hk))]
      exact envL_comm l _ fun k hk => hd k (List.mem_cons_of_mem _ hk) (fun e => hj (e ▸ hk))
    · rw [ha j List.mem_cons_self hji]
      exact envL_set hL hL' l _ (by rcases List.mem_cons.1 hm with e | e; exact absurd e.symm hji; exact e) hn (fun k hk => ha k (List.mem_cons_of_mem _ hk)) (fun k hk => hd k (List.mem_cons_of_mem _ hk))

/-- A block of operations, and all behind it. -/
def blockB (dm : Region.Mode) (ops : Array Oper) (s m : Nat) : Bool :=
  let M := ancL dm ops.toList []
  (List.range ops.size).all (fun i => decide (i < s + m) || (List.range' s m).all fun j => (M.getD i 0).testBit j) &&
  (List.range' s m).all fun i => match ops[i]? with
    | none => false
    | some o => (edges dm o).all (fun e => decide (e < i)) &&
      (List.range' s m).all fun j => match dstOf ops j with
        | none => true
        | some d => (i == j || o.dst != some d) && (!(o.looksAt ops).contains d || (decide (j < i) && (edges dm o).contains j))
structure BlockS (dm : Region.Mode) (ops : Array Oper) (s m : Nat) : Prop where
  after : ∀ i, i < ops.size → s + m ≤ i → ∀ j, s ≤ j → j < s + m → Anc dm ops i j
  fit : ∀ i, s ≤ i → i < s + m → ∃ o, ops[i]? = some o ∧ ∀ e ∈ edges dm o, e < i
  dist : ∀ i j, s ≤ i → i < s + m → s ≤ j → j < s + m → j ≠ i → dstOf ops j = none ∨ dstOf ops j ≠ dstOf ops i
  looks : ∀ i j o d, s ≤ i → i < s + m → s ≤ j → j < s + m → ops[i]? = some o → dstOf ops j = some d → d ∈ o.looksAt ops → j < i ∧ j ∈ edges dm o
theorem blockB_spec {dm : Region.Mode} {ops : Array Oper} {s m : Nat} (h : blockB dm ops s m = true) : BlockS dm ops s m := by
  unfold blockB at h
  simp only [Bool.and_eq_true, List.all_eq_true, List.mem_range, List.mem_range'_1, Bool.or_eq_true, decide_eq_true_eq] at h
  obtain ⟨h1, h2⟩ := h
  have hanc := ancL_spec (dm := dm) (ops := ops) ops.toList [] (by simp) (fun i j hb => by simp at hb)
  refine ⟨fun i hi hs j hj1 hj2 => ?_, fun i h1 h3 => ?_, fun i j hi1 hi2 hj1 hj2 hne => ?_, fun i j o d hi1 hi2 hj1 hj2 ho hd hl => ?_⟩
  · rcases h1 i hi with h | h
    · omega
    · exact hanc _ _ (h j ⟨hj1, hj2⟩)
  · have := h2 i ⟨h1, h3⟩
    cases ho : ops[i]? with
    | none => simp [ho] at this
    | some o =>
      simp only [ho, Bool.and_eq_true, List.all_eq_true, decide_eq_true_eq] at this
      exact ⟨o, rfl, this.1⟩
  · have := h2 i ⟨hi1, hi2⟩
    cases ho : ops[i]? with
    | none => simp [ho] at this
    | some o =>
      simp only [ho, Bool.and_eq_true, List.all_eq_true, decide_eq_true_eq, List.mem_range'_1] at this
      have := this.2 j ⟨hj1, hj2⟩
      cases hd : dstOf ops j with
      | none => exact .inl rfl
      | some d =>
        simp only [hd, Bool.and_eq_true, Bool.or_eq_true, beq_iff_eq, bne_iff_ne] at this
        rcases this.1 with e | e
        · exact absurd e.symm hne
        · refine .inr fun e' => e ?_
          rw [← show dstOf ops i = o.dst by simp [dstOf, ho]]
          exact e'.symm
  · have := h2 i ⟨hi1, hi2⟩
    simp only [ho, Bool.and_eq_true, List.all_eq_true, decide_eq_true_eq, List.mem_range'_1] at this
    have := this.2 j ⟨hj1, hj2⟩
    simp only [hd, Bool.and_eq_true, Bool.or_eq_true, Bool.not_eq_true', decide_eq_true_eq] at this
    rcases this.2 with e | e
    · exact absurd hl (by simpa using e)
    · exact ⟨e.1, by simpa using e.2⟩

/-- Values, one after the other. -/
def Ch (P : Program) (Γ : List (Nat × List AV)) (md : Bool) (ops : Array Oper) (σ : Sto) : List Oper → Env → List AV → Env → Prop
  | [], x, _, y => x = y
  | o :: l, x, v :: ws, y => Q1 P Γ md ops σ o x v ∧ Ch P Γ md ops σ l (aput x o.dst v) ws y
  | _ :: _, _, [], _ => False
theorem AQ.ch {md : Bool} {ops : Array Oper} {σ : Sto} {K : Env → Prop} : ∀ {l : List Oper} {x : Env}, AQ P Γ md ops σ K l x → ∃ ws y, Ch P Γ md ops σ l x ws y ∧ K y
  | [], x, h => ⟨[], x, rfl, h⟩
  | o :: l, x, h => by
    obtain ⟨v, h1, h2⟩ := h.cons
    obtain ⟨ws, y, h3, h4⟩ := AQ.ch h2
    exact ⟨v :: ws, y, ⟨h1, h3⟩, h4⟩
theorem Ch.at {md : Bool} {ops : Array Oper} {σ : Sto} {s m : Nat} (hB : ∀ i j, s ≤ i → i < s + m → s ≤ j → j < s + m → j ≠ i → dstOf ops j = none ∨ dstOf ops j ≠ dstOf ops i) {vs : Nat → AV} {env : Env} : ∀ (l : List Oper) (k : Nat) (ws : List AV) (x y : Env), Ch P Γ md ops σ l x ws y → s ≤ k → k + l.length = s + m → (∀ j, j < l.length → ops[k + j]? = l[j]?) →
    (∀ j, j < l.length → vs (k + j) = ws.getD j .any) → x = envL ops vs (fun j => decide (j < k)) (List.range' s m) env →
    (∀ i o, k ≤ i → i < s + m → ops[i]? = some o → Q1 P Γ md ops σ o (envL ops vs (fun j => decide (j < i)) (List.range' s m) env) (vs i)) ∧ y = envL ops vs (fun j => decide (j < s + m)) (List.range' s m) env
  | [], k, ws, x, y, h, _, hk, _, _, hx => by
    refine ⟨fun i o h1 h2 => by simp at hk; omega, ?_⟩
    have h : x = y := h
    simp only [List.length_nil, Nat.add_zero] at hk
    rw [← h, hx, hk]
  | o :: l, k, [], x, y, h, _, _, _, _, _ => h.elim
  | o :: l, k, v :: ws, x, y, h, hs, hk, hl, hv, hx => by
    obtain ⟨h1, h2⟩ := h
    simp only [List.length_cons] at hk hl hv
    have ho : ops[k]? = some o := by simpa using hl 0 (by omega)
    have hvk : vs k = v := by simpa using hv 0 (by omega)
    have hdk : dstOf ops k = o.dst := by simp [dstOf, ho]
    have hrest := Ch.at hB l (k + 1) ws (aput x o.dst v) y h2 (by omega) (by omega)
      (fun j hj => by have := hl (j + 1) (by omega); simpa [Nat.add_assoc, Nat.add_comm 1 j] using this)
      (fun j hj => by have := hv (j + 1) (by omega); simpa [Nat.add_assoc, Nat.add_comm 1 j] using this)
      (by
        rw [hx, ← hvk, ← hdk]
        refine (envL_set (L := fun j => decide (j < k)) (L' := fun j => decide (j < k + 1)) (by simp) (by simp) _ _ (List.mem_range'_1.2 ⟨hs, by omega⟩) List.nodup_range' (fun j _ hne => ?_) (fun j hj hne => ?_)).symm
        · have : (j < k + 1) = (j < k) := by
            apply propext
            constructor <;> intro _ <;> omega
          simp [this]
        · have hj := List.mem_range'_1.1 hj
          exact hB k j hs (by omega) hj.1 hj.2 hne)
    refine ⟨fun i o' g1 g2 g3 => ?_, hrest.2⟩
    rcases Nat.eq_or_lt_of_le g1 with rfl | g1
    · rw [ho] at g3
      cases g3
      rw [← hx, hvk]
      exact h1
    · exact hrest.1 i o' g1 g2 g3

/-- All of a drawn region from place s on. -/
def ADraw (F : Fr) (P : Program) (Γ : List (Nat × List AV)) (ops : Array Oper) (s : Nat) (l : List Oper) (env : Env) (σ : Sto) (K : Env → Sto → Prop) : Prop :=
  ∀ (C : Ctx) (a : Act) (Q : Exit → Act → World → Prop) (fuel : Nat) (listed : Array Bool), Stands F Γ C a env σ → listed.size = ops.size → (∀ i, i < ops.size → isL listed i = decide (i < s)) → ops.size - s ≤ fuel → (∀ j, l[j]? = ops[s + j]?) →
    Down .any ops (isL listed) → (∀ e a w, Post F Γ C (fun e env σ => e = .normal ∧ K env σ) e a w → Q e a w) → wpAnyIn F.fence 3 P .any ops Q fuel listed a C.w
theorem mem_ready {dm : Region.Mode} {ops : Array Oper} {listed : Array Bool} (hsz : listed.size = ops.size) {i : Nat} : i ∈ Region.ready dm ops listed ↔ i < ops.size ∧ isL listed i = false ∧ ∃ o, ops[i]? = some o ∧ ∀ e ∈ edges dm o, isL listed e = true := by
  simp only [Region.ready, List.mem_filter, List.mem_range, Bool.and_eq_true, Bool.not_eq_true']
  constructor
  · rintro ⟨h1, h2, h3⟩
    refine ⟨h1, ?_, ?_⟩
    · have : i < listed.size := by omega
      simp only [isL, Array.getD_eq_getD_getElem?, Array.getElem?_eq_getElem this, Option.getD_some] at h2 ⊢
      exact h2
    · cases ho : ops[i]? with
      | none => simp [ho] at h3
      | some o =>
        refine ⟨o, rfl, fun e he => ?_⟩
        obtain ⟨ed, h4, rfl⟩ := List.mem_map.1 he
        obtain ⟨h5, h6⟩ := List.mem_filter.1 h4
        simp only [ho, Option.map_some, Option.getD_some, Array.all_eq_true_iff_forall_mem] at h3
        have := h3 ed (by simpa using h5)
        simpa [h6] using this
  · rintro ⟨h1, h2, o, ho, h3⟩
    refine ⟨h1, ?_, ?_⟩
    · have : i < listed.size := by omega
      simp only [isL, Array.getD_eq_getD_getElem?, Array.getElem?_eq_getElem this, Option.getD_some] at h2 ⊢
      exact h2
    · simp only [ho, Option.map_some, Option.getD_some, Array.all_eq_true_iff_forall_mem]
      intro ed hed
      cases hb : Region.binds dm ed with
      | false => simp
      | true =>
        have := h3 ed.on (List.mem_map.2 ⟨ed, List.mem_filter.2 ⟨by simpa using hed, hb⟩, rfl⟩)
        simpa using this
theorem ADraw.done {ops : Array Oper} {env : Env} {σ : Sto} {K : Env → Sto → Prop} {s : Nat} (h : K env σ) : ADraw F P Γ ops s [] env σ K := by
  intro C a Q fuel listed hs hsz hL hf hl hd hq
  have hn : ops.size ≤ s := by
    have := hl 0
    simp only [List.getElem?_nil, Nat.add_zero] at this
    exact Array.getElem?_eq_none_iff.1 this.symm
  refine wpAnyIn_done ?_ (hq .normal _ _ (hs.post ⟨rfl, h⟩)) fuel
  rw [List.eq_nil_iff_forall_not_mem]
  intro i hi
  obtain ⟨h1, h2, _⟩ := (mem_ready hsz).1 hi
  rw [hL i h1] at h2
  simp at h2
  omega
theorem isL_set {listed : Array Bool} {i j : Nat} (hi : i < listed.size) : isL (listed.setIfInBounds i true) j = (decide (j = i) || isL listed j) := by
  simp only [isL, Array.getD_eq_getD_getElem?, Array.getElem?_setIfInBounds]
  by_cases h : i = j
  · subst h
    simp [hi]
  · rw [if_neg h]
    simp [Ne.symm h]
theorem Down.set {dm : Region.Mode} {ops : Array Oper} {listed : Array Bool} (hd : Down dm ops (isL listed)) {i : Nat} (hi : i < listed.size) (hr : ∀ o, ops[i]? = some o → ∀ e ∈ edges dm o, isL listed e = true) : Down dm ops (isL (listed.setIfInBounds i true)) := by
  intro k o hk ho e he
  rw [isL_set hi] at hk ⊢
  simp only [Bool.or_eq_true, decide_eq_true_eq] at hk ⊢
  rcases hk with rfl | hk
  · exact .inr (hr o ho e he)
  · exact .inr (hd k o hk ho e he)

theorem count_set {L L' : Nat → Bool} {i : Nat} (hL : L i = false) (hL' : L' i = true) : ∀ (l : List Nat), i ∈ l → l.Nodup → (∀ j, j ≠ i → L' j = L j) → l.countP (fun j => !L' j) + 1 = l.countP (fun j => !L j)
  | [], h, _, _ => by cases h
  | j :: l, h, hn, ha => by
    obtain ⟨hj, hn⟩ := List.nodup_cons.1 hn
    simp only [List.countP_cons]
    by_cases hji : j = i
    · subst hji
      have : l.countP (fun j => !L' j) = l.countP (fun j => !L j) := List.countP_congr fun k hk => by
        rw [ha k (fun e => hj (e ▸ hk))]
      rw [this, hL, hL']
      simp
    · have := count_set hL hL' l (by rcases List.mem_cons.1 h with e | e; exact absurd e.symm hji; exact e) hn ha
      rw [ha j hji]
      omega
theorem least {L : Nat → Bool} {s m : Nat} (i : Nat) (h1 : s ≤ i) (h2 : i < s + m) (h3 : L i = false) : ∃ i, s ≤ i ∧ i < s + m ∧ L i = false ∧ ∀ j, s ≤ j → j < i → L j = true := by
  induction i using Nat.strongRecOn with
  | _ i ih =>
    by_cases h : ∃ j, s ≤ j ∧ j < i ∧ L j = false
    · obtain ⟨j, a1, a2, a3⟩ := h
      exact ih j a2 a1 (by omega) a3
    · refine ⟨i, h1, h2, h3, fun j b1 b2 => ?_⟩
      cases hj : L j with
      | true => rfl
      | false => exact absurd ⟨j, b1, b2, hj⟩ h
/-- A block of operations that turn nothing, in whatever order. -/
theorem ADraw.block (md : Bool) (m : Nat) {ops : Array Oper} {env : Env} {σ : Sto} {K : Env → Sto → Prop} {s : Nat} {l : List Oper} (hb : blockB .any ops s m = true)
    (h : AQ P Γ md ops σ (fun env' => ADraw F P Γ ops (s + m) (l.drop m) env' σ K) (l.take m) env) : ADraw F P Γ ops s l env σ K := by
  intro C a Q fuel listed hs hsz hL hf hl hd hq
  have hB := blockB_spec hb
  obtain ⟨ws, y, hch, hk⟩ := h.ch
  have hll : l.length = ops.size - s := by
    rcases Nat.lt_trichotomy l.length (ops.size - s) with h | h | h
    · have := hl l.length
      rw [List.getElem?_eq_none (Nat.le_refl _), Array.getElem?_eq_getElem (by omega)] at this
      cases this
    · exact h
    · have := hl (ops.size - s)
      rw [List.getElem?_eq_getElem h, Array.getElem?_eq_none (by omega)] at this
      cases this
  have hml : (l.take m).length = m := by
    rw [List.length_take]
    rcases Nat.eq_zero_or_pos m with h | h
    · omega
    · obtain ⟨o, ho, _⟩ := hB.fit (s + m - 1) (by omega) (by omega)
      have := (Array.getElem?_eq_some_iff.1 ho).1
      omega
  have hmn : s + m ≤ ops.size ∨ m = 0 := by
    rcases Nat.eq_zero_or_pos m with h | h
    · exact .inr h
    · obtain ⟨o, ho, _⟩ := hB.fit (s + m - 1) (by omega) (by omega)
      have := (Array.getElem?_eq_some_iff.1 ho).1
      omega
  let vs : Nat → AV := fun i => ws.getD (i - s) .any
  have hstart : envL ops vs (fun j => decide (j < s)) (List.range' s m) env = env := by
    have : ∀ (l : List Nat) (x : Env), (∀ j ∈ l, s ≤ j) → envL ops vs (fun j => decide (j < s)) l x = x := by
      intro l
      induction l with
      | nil => intro x _; rfl
      | cons j l ih =>
        intro x hx
        have : ¬ j < s := by have := hx j List.mem_cons_self; omega
        simp only [envL, this, decide_false, Bool.false_eq_true, if_false]
        exact ih x fun k hk => hx k (List.mem_cons_of_mem _ hk)
    exact this _ _ fun j hj => (List.mem_range'_1.1 hj).1
  obtain ⟨hQ1, hy⟩ := Ch.at hB.dist (vs := vs) (env := env) (l.take m) s ws env y hch (Nat.le_refl _) (by rw [hml]) (fun j hj => by
    rw [hml] at hj
    rw [List.getElem?_take, if_pos hj]
    exact (hl j).symm) (fun j _ => by simp [vs]) hstart.symm
  -- whatever is listed of the block
  have main : ∀ (fuel : Nat) (listed : Array Bool) (a : Act) (D : Ctx), Ext C D → Stands F Γ D a (envL ops vs (isL listed) (List.range' s m) env) σ → listed.size = ops.size → (∀ i, i < s → i < ops.size → isL listed i = true) → (∀ i, i < ops.size → s + m ≤ i → isL listed i = false) →
      (List.range' s m).countP (fun i => !isL listed i) + (ops.size - (s + m)) ≤ fuel → Down .any ops (isL listed) → wpAnyIn F.fence 3 P .any ops Q fuel listed a D.w := by
    intro fuel
    induction fuel with
    | zero =>
      intro listed a D he hs hsz h1 h2 hc hd
      have h0 : (List.range' s m).countP (fun i => !isL listed i) = 0 := by omega
      have hall : ∀ i ∈ List.range' s m, isL listed i = true := by
        intro i hi
        have := List.countP_eq_zero.1 h0 i hi
        simpa using this
      have hE : envL ops vs (isL listed) (List.range' s m) env = y := by
        rw [hy]
        refine envL_congr _ _ fun j hj => ?_
        rw [hall j hj]
        simp [(List.mem_range'_1.1 hj).2]
      rw [hE] at hs
      refine hk D a Q 0 listed hs hsz (fun i hi => ?_) (by omega) (fun j => ?_) hd (fun e a w hp => hq e a w (hp.trans he))
      · by_cases hlt : i < s + m
        · rw [decide_eq_true hlt]
          by_cases his : i < s
          · exact h1 i his hi
          · exact hall i (List.mem_range'_1.2 ⟨by omega, hlt⟩)
        · rw [decide_eq_false hlt]
          exact h2 i hi (by omega)
      · rw [List.getElem?_drop, hl]
        congr 1
        omega
    | succ f ih =>
      intro listed a D he hs hsz h1 h2 hc hd
      by_cases h0 : (List.range' s m).countP (fun i => !isL listed i) = 0
      · have hall : ∀ i ∈ List.range' s m, isL listed i = true := by
          intro i hi
          have := List.countP_eq_zero.1 h0 i hi
          simpa using this
        have hE : envL ops vs (isL listed) (List.range' s m) env = y := by
          rw [hy]
          refine envL_congr _ _ fun j hj => ?_
          rw [hall j hj]
          simp [(List.mem_range'_1.1 hj).2]
        rw [hE] at hs
        refine hk D a Q (f + 1) listed hs hsz (fun i hi => ?_) (by omega) (fun j => ?_) hd (fun e a w hp => hq e a w (hp.trans he))
        · by_cases hlt : i < s + m
          · rw [decide_eq_true hlt]
            by_cases his : i < s
            · exact h1 i his hi
            · exact hall i (List.mem_range'_1.2 ⟨by omega, hlt⟩)
          · rw [decide_eq_false hlt]
            exact h2 i hi (by omega)
        · rw [List.getElem?_drop, hl]
          congr 1
          omega
      · have hex : ∃ i, i ∈ List.range' s m ∧ isL listed i = false := by
          obtain ⟨i, hi, hi'⟩ := List.countP_pos_iff.1 (Nat.pos_of_ne_zero h0)
          exact ⟨i, hi, by simpa using hi'⟩
        refine ⟨fun hr => ?_, fun i hi => ?_⟩
        · exfalso
          obtain ⟨i, hi, hi'⟩ := hex
          have hi := List.mem_range'_1.1 hi
          obtain ⟨k, k1, k2, k3, k4⟩ := least (L := isL listed) i hi.1 hi.2 hi'
          obtain ⟨o, ho, hed⟩ := hB.fit k k1 k2
          have hkn := (Array.getElem?_eq_some_iff.1 ho).1
          have : k ∈ Region.ready .any ops listed := (mem_ready hsz).2 ⟨hkn, k3, o, ho, fun e he => by
            have := hed e he
            by_cases hes : e < s
            · exact h1 e hes (by omega)
            · exact k4 e (by omega) this⟩
          rw [hr] at this
          cases this
        · obtain ⟨g1, g2, o, ho, g3⟩ := (mem_ready hsz).1 hi
          have his : s ≤ i := by
            rcases Nat.lt_or_ge i s with h | h
            · rw [h1 i h g1] at g2
              cases g2
            · exact h
          have him : i < s + m := by
            rcases Nat.lt_or_ge i (s + m) with h | h
            · exact h
            · exfalso
              obtain ⟨j, hj, hj'⟩ := hex
              have hj := List.mem_range'_1.1 hj
              have := hd.anc (hB.after i g1 h j hj.1 hj.2) (fun o' ho' => by rw [ho] at ho'; cases ho'; exact g3)
              rw [this] at hj'
              cases hj'
          have hdst : dstOf ops i = o.dst := by simp [dstOf, ho]
          have hQi : Q1 P Γ md ops σ o (envL ops vs (isL listed) (List.range' s m) env) (vs i) := by
            refine Q1.agree ?_ (hQ1 i o his him ho)
            intro t ht
            refine envL_agree _ _ _ rfl rfl fun j hj hdj => ?_
            have hj := List.mem_range'_1.1 hj
            obtain ⟨q1, q2⟩ := hB.looks i j o t his him hj.1 hj.2 ho hdj ht
            rw [g3 j q2]
            simp [q1]
          refine step_ok ho hQi.run hs ?_
          rintro E' a' env' he' hs' ⟨rfl, hσ'⟩
          have hisz : i < listed.size := by omega
          have hset : envL ops vs (isL (listed.setIfInBounds i true)) (List.range' s m) env = aput (envL ops vs (isL listed) (List.range' s m) env) o.dst (vs i) := by
            rw [← hdst]
            refine envL_set g2 (by rw [isL_set hisz]; simp) _ _ (List.mem_range'_1.2 ⟨his, him⟩) List.nodup_range' (fun j _ hne => by rw [isL_set hisz]; simp [hne]) (fun j hj hne => ?_)
            have hj := List.mem_range'_1.1 hj
            exact hB.dist i j his him hj.1 hj.2 hne
          refine ih (listed.setIfInBounds i true) a' E' (he.trans he') (by rw [hset]; rw [← hσ']; exact hs') (by simpa using hsz) (fun j hj hjn => ?_) (fun j hjn hj => ?_) ?_ (hd.set hisz (fun o' ho' => by rw [ho] at ho'; cases ho'; exact g3))
          · rw [isL_set hisz, h1 j hj hjn]
            simp
          · rw [isL_set hisz, h2 j hjn hj]
            simp
            omega
          · have := count_set (L := isL listed) (L' := isL (listed.setIfInBounds i true)) g2 (by rw [isL_set hisz]; simp) (List.range' s m) (List.mem_range'_1.2 ⟨his, him⟩) List.nodup_range' (fun j hne => by rw [isL_set hisz]; simp [hne])
            omega
  refine main fuel listed a C (Ext.refl _) ?_ hsz (fun i hi hin => by rw [hL i hin]; simp [hi]) (fun i hin hi => by rw [hL i hin]; simp; omega) ?_ hd
  · have : envL ops vs (isL listed) (List.range' s m) env = env := by
      rw [← hstart]
      rw [hstart]
      rw [← hstart]
      have e1 : envL ops vs (isL listed) (List.range' s m) (envL ops vs (fun j => decide (j < s)) (List.range' s m) env) = envL ops vs (isL listed) (List.range' s m) env := by rw [hstart]
      rw [e1]
      refine envL_congr _ _ fun j hj => ?_
      have hj := List.mem_range'_1.1 hj
      exact hL j (by omega)
    rw [this]
    exact hs
  · have : (List.range' s m).countP (fun i => !isL listed i) ≤ m := by
      refine Nat.le_trans List.countP_le_length ?_
      simp
    omega
/-- One operation, all before it listed, ahead of all the others. -/
theorem ADraw.one (md : Bool) {ops : Array Oper} {env : Env} {σ : Sto} {K : Env → Sto → Prop} {s : Nat} {o : Oper} {l : List Oper} (hb : blockB .any ops s 1 = true)
    (h : ARun P Γ md ops (fun env' σ' => ADraw F P Γ ops (s + 1) l env' σ' K) [o] env σ) : ADraw F P Γ ops s (o :: l) env σ K := by
  intro C a Q fuel listed hs hsz hL hf hl hd hq
  have hB := blockB_spec hb
  obtain ⟨o', ho, hed⟩ := hB.fit s (Nat.le_refl _) (by omega)
  have ho' : o = o' := by
    have := hl 0
    simp only [Nat.add_zero, ho, List.getElem?_cons_zero] at this
    cases this
    rfl
  subst ho'
  have hn := (Array.getElem?_eq_some_iff.1 ho).1
  cases fuel with
  | zero => omega
  | succ f =>
    have hnot : isL listed s = false := by rw [hL s hn]; simp
    refine ⟨fun hr => ?_, fun i hi => ?_⟩
    · exfalso
      have : s ∈ Region.ready .any ops listed := (mem_ready hsz).2 ⟨hn, hnot, o, ho, fun e he => by
        have := hed e he
        rw [hL e (by omega)]
        simp [this]⟩
      rw [hr] at this
      cases this
    · obtain ⟨g1, g2, o', ho', g3⟩ := (mem_ready hsz).1 hi
      have hi : i = s := by
        rcases Nat.lt_trichotomy i s with h | h | h
        · rw [hL i g1] at g2
          simp [h] at g2
        · exact h
        · have := hd.anc (hB.after i g1 (by omega) s (Nat.le_refl _) (by omega)) (fun o'' ho'' => by rw [ho'] at ho''; cases ho''; exact g3)
          rw [hnot] at this
          cases this
      subst hi
      rw [ho] at ho'
      cases ho'
      refine step_ok ho h hs ?_
      intro D a' env' he hs' hk
      have hisz : i < listed.size := by omega
      refine hk D a' Q f (listed.setIfInBounds i true) hs' (by simpa using hsz) (fun j hj => ?_) (by omega) (fun j => ?_) (hd.set hisz (fun o' ho' => by rw [ho] at ho'; cases ho'; exact g3)) (fun e a w hp => hq e a w (hp.trans he))
      · rw [isL_set hisz, hL j hj]
        by_cases h : j = i
        · simp [h]
        · by_cases h' : j < i
          · simp [h', Nat.lt_succ_of_lt h']
          · have : ¬ j < i + 1 := by omega
            simp [h, h', this]
      · have := hl (j + 1)
        simpa [Nat.add_assoc, Nat.add_comm 1 j] using this

theorem AW.draw (hm : P.follows .mixedOrders = true) {id : Nat} {l : List Oper} {env : Env} {σ : Sto} {Q : Exit → Env → Sto → Prop} (h : ADraw F P Γ l.toArray 0 l env σ (Q .normal)) : AW F P Γ (.region id l.toArray true) env σ Q := by
  intro C a hs
  refine wpIn_region_any hm ?_
  have hs' : Stands F Γ C.drew a env σ := ⟨hs.σ, drew_rel hs.S, RelG.mono (drew_ext C) hs.G, RelL.mono (drew_ext C) hs.L, hs.D⟩
  refine h C.drew a _ _ (Array.replicate l.toArray.size false) hs' (by simp) (fun i hi => by simp only [isL, Array.getD_eq_getD_getElem?, Array.getElem?_replicate, hi, if_true]; simp) (by simp) (fun j => by simp) (fun i o hi => by
    simp only [isL, Array.getD_eq_getD_getElem?, Array.getElem?_replicate] at hi
    split at hi <;> simp at hi) (fun e a w hp => ?_)
  obtain ⟨E, env', k1, k2, k3, k4, k5, k6, rfl, k7⟩ := hp
  exact ⟨E, env', k1, (drew_ext C).trans k2, k3, k4, k5, k6, k7⟩
attribute [go_sem] AQ
end Go.Proofs.Ev

