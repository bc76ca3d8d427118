import Derived.Test.YteekpkbmkibacaaDoorEvIter
/-! Lists: what loops over them come to. -/
namespace Go.Proofs.Ev
set_option linter.unusedSimpArgs false
set_option linter.unusedVariables false
open Go
variable {P : Program} {Γ : List (Nat × List AV)}
theorem any_step {α : Type} {p : α → Bool} {l : List α} {i : Nat} (h : i < l.length) (ht : (l.take i).any p = false) (hp : p l[i] = false) : (l.take (i + 1)).any p = false := by
  rw [List.take_succ_eq_append_getElem h, List.any_append, ht]
  simp [hp]
theorem any_end {α : Type} {p : α → Bool} {l : List α} {i : Nat} (h : ¬ i < l.length) (ht : (l.take i).any p = false) : l.any p = false := by
  rwa [List.take_of_length_le (by omega)] at ht
theorem any_at {α : Type} {p : α → Bool} {l : List α} {i : Nat} (h : i < l.length) (hp : p l[i] = true) : l.any p = true := List.any_eq_true.2 ⟨_, List.getElem_mem h, hp⟩
theorem all_step {α : Type} {p : α → Bool} {l : List α} {i : Nat} (h : i < l.length) (ht : (l.take i).all p = true) (hp : p l[i] = true) : (l.take (i + 1)).all p = true := by
  rw [List.take_succ_eq_append_getElem h, List.all_append, ht]
  simp [hp]
theorem all_end {α : Type} {p : α → Bool} {l : List α} {i : Nat} (h : ¬ i < l.length) (ht : (l.take i).all p = true) : l.all p = true := by
  rwa [List.take_of_length_le (by omega)] at ht
theorem all_at {α : Type} {p : α → Bool} {l : List α} {i : Nat} (h : i < l.length) (hp : p l[i] = false) : l.all p = false := by
  rw [List.all_eq_false]
  exact ⟨_, List.getElem_mem h, by simp [hp]⟩
theorem eq_step {α κ : Type} {key : α → κ} {l l' : List α} {i : Nat} (h : i < l.length) (h' : i < l'.length) (ht : (l.take i).map key = (l'.take i).map key) (he : key l[i] = key l'[i]) : (l.take (i + 1)).map key = (l'.take (i + 1)).map key := by
  rw [List.take_succ_eq_append_getElem h, List.take_succ_eq_append_getElem h', List.map_append, List.map_append, ht]
  simp [he]
theorem eq_end {α κ : Type} {key : α → κ} {l l' : List α} {i : Nat} (h : ¬ i < l.length) (hl : l.length = l'.length) (ht : (l.take i).map key = (l'.take i).map key) : l.map key = l'.map key := by
  rwa [List.take_of_length_le (by omega), List.take_of_length_le (by omega)] at ht
theorem eq_at {α κ : Type} {key : α → κ} {l l' : List α} {i : Nat} (h : i < l.length) (h' : i < l'.length) (hne : ¬ key l[i] = key l'[i]) : ¬ l.map key = l'.map key := by
  intro e
  have := congrArg (fun q => q[i]?) e
  simp [h, h'] at this
  exact hne this
theorem map_len {α κ : Type} {key : α → κ} {l l' : List α} (h : l.map key = l'.map key) : l.length = l'.length := by
  have := congrArg List.length h
  simpa using this
theorem not_dec {p : Prop} [Decidable p] (h : (!decide p) = true) : ¬ p := by simpa using h
theorem dec_of {p : Prop} [Decidable p] (h : (!decide p) = false) : p := by simpa using h
theorem row_bel {α : Type} {en : α → AV} (h : ∀ a n, (en a).bel n = true) (n sz : Nat) (nl : Bool) (l : List α) : (rowAV sz nl (l.map en)).bel n = true := by
  have := belL_map (n := n) en l fun x _ => h x n
  cases l with
  | nil => cases nl <;> rfl
  | cons a l => simpa [rowAV, AV.bel] using this
theorem frz_row {α : Type} {en : α → AV} (h : ∀ a n, (en a).bel n = true) {n k sz : Nat} {σ : Sto} (hk : n ≤ k) (l : List α) : Frz n σ (.slo true sz (l.map en) k) (rowAV sz true (l.map en)) := by
  cases l with
  | nil => exact .ownNil
  | cons a l => exact .own hk (by simp) (FrzR.keep (belL_map (n := n) en (a :: l) fun x _ => h x n))
theorem fits_of {n b : Nat} (hn : n ≤ 2097152) (hb : b ≤ 4096) : fits n b = true := by
  have h1 : n * b ≤ 2097152 * 4096 := Nat.mul_le_mul hn hb
  simp only [fits, Bool.and_eq_true, decide_eq_true_eq]
  omega
/-- One more behind a row that is owned. -/
theorem app_one (σ : Sto) (nl : Bool) (sz b : Nat) (es : List AV) (k m : Nat) (v : AV) (hm : m = es.length) (hn : m ≤ 2000000) (hb : b ≤ 4096) : appAt σ nl sz b es k [v] (some (.cap m sz)) = some (.slo nl sz (es ++ [v]) k, σ.set k (.cap (m + 1) sz)) := by
  rw [appAt_one σ nl sz b es k m v hm (fits_of (by omega) hb), hm]
theorem app_at {α : Type} {en : α → AV} {l : List α} {j : Nat} (hj : j < l.length) (hl : l.length ≤ 2000000) (nl : Bool) (sz b : Nat) (hb : b ≤ 4096) : ∀ (σ : Sto) (k : Nat) (v : AV), appAt σ nl sz b ((l.take j).map en) k [v] (some (.cap j sz)) = some (.slo nl sz ((l.take j).map en ++ [v]) k, σ.set k (.cap (j + 1) sz)) := by
  intro σ k v
  exact app_one σ nl sz b _ k j v (by simp; omega) (by omega) hb
theorem take_at {α : Type} (en : α → AV) {l : List α} {j : Nat} (hj : j < l.length) : (l.take j).map en ++ [en l[j]] = (l.take (j + 1)).map en := by
  rw [List.take_succ_eq_append_getElem hj, List.map_append]
  rfl
theorem wrap_add {a b c : Nat} (h : a + b = c) (hc : c < 9223372036854775808) : IntKind.wrap .i64 ((a : Int) + (b : Int)) = (c : Int) := by
  rw [wrap_i64] <;> omega
theorem wrap_add1 {a : Nat} (h : a + 1 < 9223372036854775808) : IntKind.wrap .i64 ((a : Int) + 1) = ((a + 1 : Nat) : Int) := by
  rw [wrap_i64] <;> omega
theorem maxLen_eq : maxLen = 9223372036854775807 := by decide
theorem mem_at {α : Type} {l : List α} {i : Nat} (h : i < l.length) : l[i] ∈ l := List.getElem_mem h
/-- What a function left behind is forgotten; what lived may have turned. -/
theorem ACalls.trunc {f : FuncId} {args : List AV} {σ : Sto} {R R' : AV → Sto → Prop} (h : ACalls P Γ f args σ R') (hr : ∀ v σ', R' v σ' → ∃ σ1 ρ, σ' = σ1 ++ ρ ∧ σ1.length = σ.length ∧ (∀ (i : Nat) (a : AO), σ1[i]? = some a → σ[i]? = some a ∨ a.bel σ.length = true) ∧ v.bel σ.length = true ∧ R v σ1) : ACalls P Γ f args σ R := by
  intro C xs h1 h2 h3 h4
  refine (h C xs h1 h2 h3 h4).mono ?_
  rintro e w' ⟨D, x, v, rfl, rfl, k2, k3, k4, k5⟩
  obtain ⟨σ1, ρ, e1, e2, e3, e4, e5⟩ := hr _ _ k5
  have hl : C.σ.length = σ.length := by rw [h1]
  have htk : (D.trunc C.σ.length).σ = σ1 := by
    show D.σ.take C.σ.length = _
    rw [e1, List.take_left' (by rw [e2, hl])]
  refine ⟨D.trunc C.σ.length, x, v, rfl, rfl, trunc_ext k2 rfl, trunc_bel k3 fun i a hi ha => ?_, RelV.keep (trunc_less _ _) (by rw [hl]; exact e4) k4, by rw [htk]; exact e5⟩
  have hx : σ1[i]? = some a := by
    rw [← htk]
    show (D.σ.take _)[i]? = _
    rw [List.getElem?_take, if_pos hi]
    exact ha
  rcases e3 i a hx with h | h
  · exact h2.bel (by rw [h1]; exact h)
  · rw [hl]
    exact h
theorem at_tail {τ τ' : Sto} (A : Sto) (h : τ'.length = τ.length) (x : Sto) : (A ++ (τ' ++ x))[(A ++ τ).length]? = x[0]? := by
  rw [← List.append_assoc, show (A ++ τ).length = (A ++ τ').length by simp [h], app_get0]
theorem at_len {τ τ' : Sto} (h : τ'.length = τ.length) (x : Sto) : (τ' ++ x)[τ.length]? = x[0]? := by rw [← h, app_get0]
theorem srcS_row (sz : Nat) (nl : Bool) (l : List AV) : aSrcS sz (rowAV sz nl l) = some l := by
  cases l with
  | nil => cases nl <;> simp [rowAV, aSrcS]
  | cons a l => simp [rowAV, aSrcS]
theorem still_row (sz : Nat) (nl : Bool) (l : List AV) : AV.still (rowAV sz nl l) = rowAV sz nl l := by
  cases l with
  | nil => cases nl <;> rfl
  | cons a l => rfl
/-- All of a list behind an empty row that is owned. -/
theorem app_all (σ : Sto) (nl : Bool) (sz b k : Nat) (l : List AV) (hl : l.length ≤ 2000000) (hb : b ≤ 4096) (hk : σ[k]? = some (.cap 0 sz)) : appAt σ nl sz b [] k l (some (.cap 0 sz)) = some (.slo nl sz l k, σ.set k (.cap l.length sz)) := by
  cases l with
  | nil =>
    have : σ.set k (.cap 0 sz) = σ := set_self hk
    simp [appAt, this, fits_of (n := 0) (b := b) (by omega) hb]
  | cons a l =>
    have hf := fits_of (n := (a :: l).length) (b := b) (by simp only [List.length_cons] at hl ⊢; omega) hb
    simp [appAt] at hf ⊢
    simp [hf]
theorem map_at {α β : Type} {f : α → β} {l : List α} {k : Nat} {x : β} (h : (l.map f)[k]? = some x) : ∃ d, l[k]? = some d ∧ x = f d := by
  rw [List.getElem?_map] at h
  obtain ⟨d, h1, h2⟩ := Option.map_eq_some_iff.1 h
  exact ⟨d, h1, h2.symm⟩
/-- A store with the right to append to one row at k, as the row grows. -/
structure OwnRow (st : Nat → Sto) (k N sz : Nat) : Prop where
  len : ∀ m, (st m).length = N
  lt : k < N
  get : ∀ m (x : Sto), (st m ++ x)[k]? = some (.cap m sz)
  set : ∀ m m' (x : Sto), (st m ++ x).set k (.cap m' sz) = st m' ++ x
  same : ∀ m m' i, i ≠ k → (st m')[i]? = (st m)[i]?
theorem OwnRow.at {st : Nat → Sto} {k N sz : Nat} (h : OwnRow st k N sz) (m : Nat) (x : Sto) : (st m ++ x)[N]? = x[0]? := by rw [← h.len m]; exact app_get0 _ _
theorem OwnRow.get0 {st : Nat → Sto} {k N sz : Nat} (h : OwnRow st k N sz) (m : Nat) : (st m)[k]? = some (.cap m sz) := by
  have := h.get m []
  rwa [List.append_nil] at this
theorem OwnRow.more {st : Nat → Sto} {k N sz : Nat} (h : OwnRow st k N sz) (y : Sto) : OwnRow (fun m => st m ++ y) k (N + y.length) sz := {
  len := fun m => by rw [List.length_append, h.len]
  lt := by have := h.lt; omega
  get := fun m x => by rw [List.append_assoc]; exact h.get m _
  set := fun m m' x => by rw [List.append_assoc, h.set, List.append_assoc]
  same := fun m m' i hi => by
    rcases Nat.lt_or_ge i N with h1 | h1
    · rw [List.getElem?_append_left (by rw [h.len]; exact h1), List.getElem?_append_left (by rw [h.len]; exact h1)]
      exact h.same m m' i hi
    · rw [List.getElem?_append_right (by rw [h.len]; exact h1), List.getElem?_append_right (by rw [h.len]; exact h1), h.len, h.len] }
theorem OwnRow.bel {st : Nat → Sto} {k N sz : Nat} (h : OwnRow st k N sz) (m m' n : Nat) : ∀ (i : Nat) (a : AO), (st m')[i]? = some a → (st m)[i]? = some a ∨ a.bel n = true := by
  intro i a hi
  by_cases e : i = k
  · right
    rw [e, h.get0 m'] at hi
    cases hi
    rfl
  · left
    rw [← h.same m m' i e]
    exact hi
theorem ownRow_of {σ : Sto} {k m sz : Nat} (h : σ[k]? = some (.cap m sz)) : OwnRow (fun m => σ.set k (.cap m sz)) k σ.length sz ∧ σ.set k (.cap m sz) = σ := by
  have hk := get_lt h
  refine ⟨⟨fun m => by simp, hk, fun m x => ?_, fun m m' x => ?_, fun m m' i hi => ?_⟩, set_self h⟩
  · rw [List.getElem?_append_left (by simpa using hk)]
    simp [hk]
  · rw [List.set_append_left _ _ (by simpa using hk), List.set_set]
  · rw [List.getElem?_set_ne (Ne.symm hi), List.getElem?_set_ne (Ne.symm hi)]
/-- Whatever the loop hands to the yield o is taken as S tells, or the walk is left. -/
def AYields (P : Program) (Γ : List (Nat × List AV)) (o : Nat) (S : Nat → Sto) (I : Nat → Prop) (X : Sto → Prop) (xs : List (List AV)) : Prop :=
  ∀ k x, xs[k]? = some x → I k → ∀ τ, ARound P Γ o x (S k ++ τ) (fun b σ' => (b = true ∧ I (k + 1) ∧ σ' = S (k + 1) ++ τ) ∨ (b = false ∧ ∃ σx, X σx ∧ σ' = σx ++ τ))
theorem AYields.part {o : Nat} {S : Nat → Sto} {I : Nat → Prop} {X : Sto → Prop} {xs ys zs : List (List AV)} (h : AYields P Γ o S I X (xs ++ (ys ++ zs))) : AYields P Γ o (fun k => S (xs.length + k)) (fun k => I (xs.length + k)) X ys := by
  intro k x hx hI τ
  have hk := (List.getElem?_eq_some_iff.1 hx).1
  exact h (xs.length + k) x (by rw [List.getElem?_append_right (by omega), Nat.add_sub_cancel_left, List.getElem?_append_left hk]; exact hx) hI τ
end Go.Proofs.Ev
