import Derived.Test.YteekpkbmkibacaaREvDraw2
/-! A drawn region of two chains that run beside each other, and one operation behind both. -/
namespace Go.Proofs.Ev
set_option linter.unusedSimpArgs false
set_option linter.unusedVariables false
open Go
variable {F : Fr} {P : Program} {Γ : List (Nat × List AV)}
/-- What is listed when i of the one chain and k of the other have come. -/
def lst (A B : List Nat) (i k j : Nat) : Bool := (A.take i ++ B.take k).contains j
def readyB (ops : Array Oper) (L : Nat → Bool) (x : Nat) : Bool := !L x && match ops[x]? with
  | some o => (edges .any o).all L
  | none => false
def nextB (ops : Array Oper) (L L' : Nat → Bool) (x : Nat) : Bool := readyB ops L x && decide (x < ops.size) && (List.range ops.size).all fun j => L' j == (j == x || L j)
def gridB (ops : Array Oper) (A B : List Nat) (t : Nat) : Bool := (List.range (A.length + 1)).all fun i => (List.range (B.length + 1)).all fun k =>
  ((List.range ops.size).all fun x => !readyB ops (lst A B i k) x || A[i]? == some x || B[k]? == some x || (x == t && i == A.length && k == B.length)) &&
  (match A[i]? with | some x => nextB ops (lst A B i k) (lst A B (i + 1) k) x | none => true) &&
  (match B[k]? with | some x => nextB ops (lst A B i k) (lst A B i (k + 1)) x | none => true) &&
  (!(i == A.length && k == B.length) || nextB ops (lst A B i k) (fun _ => true) t)
theorem readyB_iff {ops : Array Oper} {L : Nat → Bool} {listed : Array Bool} (hsz : listed.size = ops.size) (hL : ∀ j, j < ops.size → isL listed j = L j) (he : ∀ (x : Nat) (o : Oper), ops[x]? = some o → ∀ e ∈ edges .any o, e < ops.size) {x : Nat} (hx : x < ops.size) : x ∈ Region.ready .any ops listed ↔ readyB ops L x = true := by
  rw [mem_ready hsz]
  unfold readyB
  constructor
  · rintro ⟨h1, h2, o, h3, h4⟩
    rw [h3, ← hL x hx, h2]
    simp only [Bool.not_false, Bool.true_and, List.all_eq_true]
    intro e hee
    rw [← hL e (he x o h3 e hee)]
    exact h4 e hee
  · intro h
    simp only [Bool.and_eq_true, Bool.not_eq_true'] at h
    refine ⟨hx, by rw [hL x hx]; exact h.1, ?_⟩
    cases ho : ops[x]? with
    | none => rw [ho] at h; cases h.2
    | some o =>
      rw [ho] at h
      refine ⟨o, rfl, fun e hee => ?_⟩
      rw [hL e (he x o ho e hee)]
      exact List.all_eq_true.1 h.2 e hee
set_option maxHeartbeats 1000000 in
theorem ADraw.grid (md : Bool) (A B : List Nat) (t : Nat) (Inv : Nat → Nat → Env → Sto → Prop) {l : List Oper} {env : Env} {σ : Sto} {K : Env → Sto → Prop} (hb : gridB l.toArray A B t = true)
    (hee : (l.all fun o => (edges .any o).all fun e => decide (e < l.length)) = true) (hn : A.length + B.length + 1 = l.length) (h0 : Inv 0 0 env σ)
    (hA : ∀ (i x : Nat) (o : Oper), A[i]? = some x → l[x]? = some o → ∀ k env σ, k ≤ B.length → Inv i k env σ → ARun P Γ md l.toArray (fun env' σ' => Inv (i + 1) k env' σ') [o] env σ)
    (hB : ∀ (k x : Nat) (o : Oper), B[k]? = some x → l[x]? = some o → ∀ i env σ, i ≤ A.length → Inv i k env σ → ARun P Γ md l.toArray (fun env' σ' => Inv i (k + 1) env' σ') [o] env σ)
    (ht : ∀ o : Oper, l[t]? = some o → ∀ env σ, Inv A.length B.length env σ → ARun P Γ md l.toArray K [o] env σ) : ADraw F P Γ l.toArray 0 l env σ K := by
  have he : ∀ (x : Nat) (o : Oper), l.toArray[x]? = some o → ∀ e ∈ edges .any o, e < l.toArray.size := by
    intro x o hx e h
    have hm : o ∈ l := List.mem_of_getElem? (by simpa using hx)
    simpa using List.all_eq_true.1 (List.all_eq_true.1 hee o hm) e h
  have hG : ∀ i k, i ≤ A.length → k ≤ B.length → _ := fun i k hi hk => List.all_eq_true.1 (List.all_eq_true.1 hb i (List.mem_range.2 (by omega))) k (List.mem_range.2 (by omega))
  have main : ∀ (fuel i k : Nat) (listed : Array Bool) (C : Ctx) (a : Act) (env : Env) (Q : Exit → Act → World → Prop), i ≤ A.length → k ≤ B.length → Inv i k env C.σ → Stands F Γ C a env C.σ → listed.size = l.toArray.size → (∀ j, j < l.toArray.size → isL listed j = lst A B i k j) →
      (A.length - i) + (B.length - k) + 1 ≤ fuel → (∀ e a w, Post F Γ C (fun e env σ => e = .normal ∧ K env σ) e a w → Q e a w) → wpAnyIn F.fence 3 P .any l.toArray Q fuel listed a C.w := by
    intro fuel
    induction fuel with
    | zero => intro i k _ _ _ _ _ _ _ _ _ _ _ h; omega
    | succ fuel ih =>
      intro i k listed C a env Q hi hk hI hs hsz hL hf hq
      have hg := hG i k hi hk
      simp only [Bool.and_eq_true] at hg
      obtain ⟨⟨⟨g1, g2⟩, g3⟩, g4⟩ := hg
      have setL : ∀ {L' : Nat → Bool} {x : Nat}, nextB l.toArray (lst A B i k) L' x = true → x < l.toArray.size ∧ readyB l.toArray (lst A B i k) x = true ∧ ∀ j, j < l.toArray.size → isL (listed.setIfInBounds x true) j = L' j := by
        intro L' x hn
        unfold nextB at hn
        simp only [Bool.and_eq_true, decide_eq_true_eq, List.all_eq_true, List.mem_range, beq_iff_eq] at hn
        refine ⟨hn.1.2, hn.1.1, fun j hj => ?_⟩
        rw [isL_set (by omega), hL j hj, hn.2 j hj]
        rfl
      refine ⟨fun hr => ?_, fun x hx => ?_⟩
      · exfalso
        have hno : ∀ x, x < l.toArray.size → readyB l.toArray (lst A B i k) x = true → False := fun x hx h => by
          have := (readyB_iff hsz hL he hx).2 h
          rw [hr] at this
          cases this
        by_cases hia : i < A.length
        · rw [List.getElem?_eq_getElem hia] at g2
          obtain ⟨h1, h2, _⟩ := setL g2
          exact hno _ h1 h2
        · by_cases hkb : k < B.length
          · rw [List.getElem?_eq_getElem hkb] at g3
            obtain ⟨h1, h2, _⟩ := setL g3
            exact hno _ h1 h2
          · have e1 : i = A.length := by omega
            have e2 : k = B.length := by omega
            rw [e1, e2] at g4
            simp only [beq_self_eq_true, Bool.and_self, Bool.not_true, Bool.false_or] at g4
            rw [← e1, ← e2] at g4
            obtain ⟨h1, h2, _⟩ := setL g4
            exact hno _ h1 h2
      · have hxs := ((mem_ready hsz).1 hx).1
        obtain ⟨o, ho⟩ : ∃ o, l[x]? = some o := ⟨_, List.getElem?_eq_getElem (by simpa using hxs)⟩
        have hoa : l.toArray[x]? = some o := by simpa using ho
        have hrd := (readyB_iff hsz hL he hxs).1 hx
        have hg1 := List.all_eq_true.1 g1 x (List.mem_range.2 hxs)
        rw [hrd] at hg1
        simp only [Bool.not_true, Bool.false_or, Bool.or_eq_true, beq_iff_eq, Bool.and_eq_true] at hg1
        rcases hg1 with (hx1 | hx1) | ⟨⟨rfl, rfl⟩, rfl⟩
        · rw [hx1] at g2
          obtain ⟨_, _, h3⟩ := setL g2
          have hia : i < A.length := (List.getElem?_eq_some_iff.1 hx1).1
          refine step_ok hoa (hA i x o hx1 ho k env C.σ hk hI) hs ?_
          intro D a' env' hE hs' hI'
          exact ih (i + 1) k _ D a' env' Q (by omega) hk hI' hs' (by simpa using hsz) h3 (by omega) (fun e a w hp => hq e a w (hp.trans hE))
        · rw [hx1] at g3
          obtain ⟨_, _, h3⟩ := setL g3
          have hkb : k < B.length := (List.getElem?_eq_some_iff.1 hx1).1
          refine step_ok hoa (hB k x o hx1 ho i env C.σ hi hI) hs ?_
          intro D a' env' hE hs' hI'
          exact ih i (k + 1) _ D a' env' Q hi (by omega) hI' hs' (by simpa using hsz) h3 (by omega) (fun e a w hp => hq e a w (hp.trans hE))
        · simp only [beq_self_eq_true, Bool.and_self, Bool.not_true, Bool.false_or] at g4
          obtain ⟨_, _, h3⟩ := setL g4
          refine step_ok hoa (ht o ho env C.σ hI) hs ?_
          intro D a' env' hE hs' hK
          refine wpAnyIn_done ?_ (hq .normal _ _ ((hs'.post (Q := fun e env σ => e = .normal ∧ K env σ) ⟨rfl, hK⟩).trans hE)) fuel
          rw [List.eq_nil_iff_forall_not_mem]
          intro y hy
          obtain ⟨h1, h2, _⟩ := (mem_ready (by simpa using hsz)).1 hy
          rw [h3 y h1] at h2
          cases h2
  intro C a Q fuel listed hs hsz hL hf hl hd hq
  have hσ := hs.σ
  refine main fuel 0 0 listed C a env Q (Nat.zero_le _) (Nat.zero_le _) (by rw [hσ]; exact h0) (by rw [hσ]; exact hs) hsz (fun j hj => ?_) ?_ hq
  · rw [hL j hj]
    simp [lst]
  · have : l.toArray.size = l.length := by simp
    omega
end Go.Proofs.Ev

