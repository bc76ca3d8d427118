import Derived.Test.YtnjehllmlheagaaDoorRgEvDraw2
/-! A drawn region in which whatever is ready may come: an invariant over what has come. -/
namespace Go.Proofs.Ev
set_option linter.unusedSimpArgs false
set_option linter.unusedVariables false
open Go
variable {F : Fr} {P : Program} {Γ : List (Nat × List AV)}
def fwdB (l : List Oper) : Bool := (List.range l.length).all fun x => match l[x]? with
  | some o => (edges .any o).all fun e => decide (e < x)
  | none => true
theorem fwdB_at {l : List Oper} (h : fwdB l = true) {x : Nat} {o : Oper} (hx : l[x]? = some o) : ∀ e ∈ edges .any o, e < x := by
  have hl := (List.getElem?_eq_some_iff.1 hx).1
  have := List.all_eq_true.1 h x (List.mem_range.2 hl)
  rw [hx] at this
  intro e he
  simpa using List.all_eq_true.1 this e he
theorem cnt_dec {S : Nat → Bool} {x : Nat} (h : S x = false) : ∀ {n : Nat}, x < n → (List.range n).countP (fun j => !(j == x || S j)) + 1 = (List.range n).countP (fun j => !S j)
  | 0, hx => by omega
  | n + 1, hx => by
    rw [List.range_succ, List.countP_append, List.countP_append]
    by_cases e : x = n
    · subst e
      have : (List.range x).countP (fun j => !(j == x || S j)) = (List.range x).countP (fun j => !S j) := by
        refine List.countP_congr fun j hj => ?_
        have : j < x := List.mem_range.1 hj
        have hne : (j == x) = false := by simp; omega
        rw [hne, Bool.false_or]
      rw [this]
      simp [h]
    · have := cnt_dec h (n := n) (by omega)
      have hne : (n == x) = false := by simp; omega
      simp only [List.countP_singleton, hne, Bool.false_or]
      omega
theorem ADraw.any (md : Bool) (Inv : (Nat → Bool) → Env → Sto → Prop) {l : List Oper} {env : Env} {σ : Sto} {K : Env → Sto → Prop} (hb : fwdB l = true) (h0 : Inv (fun _ => false) env σ)
    (hs : ∀ (S : Nat → Bool) (x : Nat) (o : Oper), l[x]? = some o → S x = false → (∀ e ∈ edges .any o, S e = true) → ∀ env σ, Inv S env σ → ARun P Γ md l.toArray (fun env' σ' => Inv (fun j => j == x || S j) env' σ') [o] env σ)
    (ht : ∀ (S : Nat → Bool) env σ, (∀ j, j < l.length → S j = true) → Inv S env σ → K env σ) : ADraw F P Γ l.toArray 0 l env σ K := by
  have main : ∀ (fuel : Nat) (S : Nat → Bool) (listed : Array Bool) (C : Ctx) (a : Act) (env : Env) (Q : Exit → Act → World → Prop), Inv S env C.σ → Stands F Γ C a env C.σ → listed.size = l.toArray.size → (∀ j, j < l.toArray.size → isL listed j = S j) →
      (List.range l.length).countP (fun j => !S j) ≤ fuel → (∀ e a w, Post F Γ C (fun e env σ => e = .normal ∧ K env σ) e a w → Q e a w) → wpAnyIn F.fence 3 P .any l.toArray Q fuel listed a C.w := by
    intro fuel
    induction fuel with
    | zero =>
      intro S listed C a env Q hI hst hsz hL hf hq
      have hall : ∀ j, j < l.length → S j = true := by
        intro j hj
        have h0 := List.countP_eq_zero.1 (Nat.le_zero.1 hf) j (List.mem_range.2 hj)
        simpa using h0
      refine wpAnyIn_done ?_ (hq .normal _ _ (hst.post (Q := fun e env σ => e = .normal ∧ K env σ) ⟨rfl, ht S env C.σ hall hI⟩)) 0
      rw [List.eq_nil_iff_forall_not_mem]
      intro y hy
      obtain ⟨h1, h2, _⟩ := (mem_ready (by simpa using hsz)).1 hy
      rw [hL y h1, hall y (by simpa using h1)] at h2
      cases h2
    | succ fuel ih =>
      intro S listed C a env Q hI hst hsz hL hf hq
      refine ⟨fun hr => ?_, fun x hx => ?_⟩
      · have hall : ∀ j, j < l.length → S j = true := by
          intro j
          induction j using Nat.strongRecOn with
          | ind j ihj =>
            intro hj
            cases hS : S j with
            | true => rfl
            | false =>
              exfalso
              obtain ⟨o, ho⟩ : ∃ o, l[j]? = some o := ⟨_, List.getElem?_eq_getElem hj⟩
              have : j ∈ Region.ready .any l.toArray listed := by
                refine (mem_ready hsz).2 ⟨by simpa using hj, by rw [hL j (by simpa using hj)]; exact hS, o, by simpa using ho, fun e he => ?_⟩
                have hlt := fwdB_at hb ho e he
                rw [hL e (by have : e < l.length := (by omega); simpa using this)]
                exact ihj e hlt (by omega)
              rw [hr] at this
              cases this
        exact hq .normal _ _ (hst.post (Q := fun e env σ => e = .normal ∧ K env σ) ⟨rfl, ht S env C.σ hall hI⟩)
      · obtain ⟨hxs, hxl, o, hoa, hed⟩ := (mem_ready hsz).1 hx
        have ho : l[x]? = some o := by simpa using hoa
        have hxl' : x < l.length := by simpa using hxs
        have hSx : S x = false := by rw [← hL x hxs]; exact hxl
        refine step_ok hoa (hs S x o ho hSx (fun e he => ?_) env C.σ hI) hst ?_
        · have hlt := fwdB_at hb ho e he
          rw [← hL e (by have : e < l.length := (by omega); simpa using this)]
          exact hed e he
        intro D a' env' hE hs' hI'
        refine ih _ _ D a' env' Q hI' hs' (by simpa using hsz) (fun j hj => ?_) ?_ (fun e a w hp => hq e a w (hp.trans hE))
        · rw [isL_set (by omega), hL j hj]
          rfl
        · have := cnt_dec hSx hxl'
          omega
  intro C a Q fuel listed hst hsz hL hf hl hd hq
  have hσ := hst.σ
  refine main fuel (fun _ => false) listed C a env Q (by rw [hσ]; exact h0) (by rw [hσ]; exact hst) hsz (fun j hj => ?_) ?_ hq
  · rw [hL j hj]
    simp
  · have h1 : (List.range l.length).countP (fun j => !(fun _ => false) j) ≤ (List.range l.length).length := List.countP_le_length
    have h2 : l.toArray.size = l.length := by simp
    simp only [List.length_range] at h1
    omega
end Go.Proofs.Ev

