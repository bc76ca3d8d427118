import Derived.Test.YtnjehllmlheagaaDoorRgEvFrz
/-! What lives as one identity lives on as a new one. -/
namespace Go.Proofs.Ev
set_option linter.unusedSimpArgs false
set_option linter.unusedVariables false
open Go
variable {F : Fr} {P : Program} {Γ : List (Nat × List AV)}
def rn (o p k : Nat) : Nat := if k = o then p else k
mutual
def AV.ren (o p : Nat) : AV → AV
  | .osl k off l z => .osl (rn o p k) off l z
  | .agg cs => .agg (renL o p cs)
  | .tup cs => .tup (renL o p cs)
  | .sl z ds => .sl z (renL o p ds)
  | .slf z ds => .slf z (renL o p ds)
  | .slo nl z ds k => .slo nl z (renL o p ds) k
  | .er cs => .er (renL o p cs)
  | .fn f cs => .fn f (renL o p cs)
  | .mapf ks vs => .mapf ks (renL o p vs)
  | .ifc t v => .ifc t (v.ren o p)
  | .any => .any
  | .val v => .val v
  | .nilsl => .nilsl
  | .ref k off => .ref (rn o p k) off
  | .mapo k => .mapo (rn o p k)
  | .yl k => .yl (rn o p k)
def renL (o p : Nat) : List AV → List AV
  | [] => []
  | c :: cs => c.ren o p :: renL o p cs
end
theorem renL_length (o p : Nat) : ∀ l : List AV, (renL o p l).length = l.length
  | [] => rfl
  | _ :: l => congrArg (· + 1) (renL_length o p l)
theorem renL_map (o p : Nat) : ∀ l : List AV, renL o p l = l.map (AV.ren o p)
  | [] => rfl
  | _ :: l => congrArg (_ :: ·) (renL_map o p l)
def AO.ren (o p : Nat) : AO → AO
  | .cells cs => .cells (renL o p cs)
  | .map ks vs => .map ks (renL o p vs)
  | .dead => .dead
  | .cap n z => .cap n z
  | .dfr => .dfr
  | .loop r env => .loop r (renL o p env)
structure RenC (C D : Ctx) (o p : Nat) : Prop where
  w : D.w = C.w
  φ : ∀ (k : Nat) (a : AO), C.σ[k]? = some a → D.φ (rn o p k) = C.φ k
  alive : ∀ (k : Nat) (a : AO), C.σ[k]? = some a → a.isCap = false → ∃ a' : AO, D.σ[rn o p k]? = some a' ∧ a'.isCap = false
  caps : ∀ (k n z : Nat), C.σ[k]? = some (.cap n z) → D.σ[k]? = some (.cap n z) ∧ D.φ k = C.φ k
  lim : ∀ (k l : Nat), D.lim k = some l → ∃ k', C.lim k' = some l ∧ C.φ k' = D.φ k
theorem RenC.fixC {C D : Ctx} {o p : Nat} (h : RenC C D o p) {b off : Nat} (hf : C.FixC b off) : D.FixC b off := ⟨by rw [h.w]; exact hf.1, fun k l hk e => by
  obtain ⟨k', h1, h2⟩ := h.lim k l hk
  exact hf.2 k' l h1 (by rw [h2]; exact e)⟩
theorem RenC.fixB {C D : Ctx} {o p : Nat} (h : RenC C D o p) {b : Nat} (hf : C.FixB b) : D.FixB b := ⟨by rw [h.w]; exact hf.1, fun k l hk e => by
  obtain ⟨k', h1, h2⟩ := h.lim k l hk
  exact hf.2 k' l h1 (by rw [h2]; exact e)⟩
mutual
theorem RelV.ren {C D : Ctx} {o p : Nat} (h : RenC C D o p) : ∀ {c : AV} {x : Value}, RelV C c x → RelV D (c.ren o p) x
  | .any, _, _ => trivial
  | .val _, _, hx => by simpa [RelV, AV.ren] using hx
  | .agg cs, _, hx => by
    obtain ⟨xs, e, hl⟩ := hx
    exact ⟨xs, e, RelL.ren h hl⟩
  | .tup cs, _, hx => by
    obtain ⟨xs, e, hl⟩ := hx
    exact ⟨xs, e, RelL.ren h hl⟩
  | .nilsl, _, hx => by simpa [RelV, AV.ren] using hx
  | .sl z ds, _, hx => by
    obtain ⟨b, off, c, s, e, hs, h1, h1', hr⟩ := hx
    refine ⟨b, off, c, s, by rw [renL_length]; exact e, ?_, by rw [renL_length]; exact h1, h1', RelRow.ren h hr⟩
    rcases hs with e | e
    · subst e
      exact .inl rfl
    · exact .inr e
  | .slf z ds, _, hx => by
    obtain ⟨b, e, hs, h1, h1', hr⟩ := hx
    have hnil : renL o p ds = [] → ds = [] := fun e => List.eq_nil_of_length_eq_zero (by rw [← renL_length o p ds, e]; rfl)
    exact ⟨b, by rw [renL_length]; exact e, fun e => hs (hnil e), h1, by rw [renL_length]; exact h1', RelRow.ren h hr⟩
  | .slo nl z ds k, _, hx => by
    obtain ⟨m, h1, h2, h3, h4, h5⟩ := hx
    have hnil : renL o p ds = [] → ds = [] := fun e => List.eq_nil_of_length_eq_zero (by rw [← renL_length o p ds, e]; rfl)
    obtain ⟨hk1, hk2⟩ := h.caps _ _ _ h1
    refine ⟨m, hk1, by rw [renL_length]; exact h2, h3, fun e => h4 (hnil e), fun hne => ?_⟩
    obtain ⟨b, off, c, e, k1, k2, k3, k4⟩ := h5 (fun e => hne (by rw [e]; rfl))
    refine ⟨b, off, c, by rw [renL_length]; exact e, by rw [renL_length]; exact k1, k2, fun he => ?_, RelRow.ren h k4⟩
    obtain ⟨l1, l2, arr, T, l3, l4⟩ := k3 (by rw [renL_length] at he; exact he)
    exact ⟨by rw [hk2]; exact l1, l2, arr, T, by rw [h.w]; exact l3, l4⟩
  | .er cs, _, hx => by
    obtain ⟨b, off, e, hr⟩ := hx
    exact ⟨b, off, e, RelAt.ren h hr⟩
  | .ref o' off, _, hx => by
    obtain ⟨⟨a, ha, hc⟩, e⟩ := hx
    exact ⟨h.alive _ _ ha hc, by rw [e, h.φ _ _ ha]⟩
  | .osl o' off l z, x, hx => by
    obtain ⟨⟨a, ha, hc⟩, c, arr, T, e, h1, h2, h3, h4⟩ := hx
    exact ⟨h.alive _ _ ha hc, c, arr, T, by rw [e, h.φ _ _ ha], h1, h2, by rw [h.φ _ _ ha, h.w]; exact h3, h4⟩
  | .fn f caps, _, hx => by
    obtain ⟨xs, e, hl⟩ := hx
    exact ⟨xs, e, RelL.ren h hl⟩
  | .mapo o', _, hx => by
    obtain ⟨⟨a, ha, hc⟩, e⟩ := hx
    exact ⟨h.alive _ _ ha hc, by rw [e, h.φ _ _ ha]⟩
  | .yl o', _, hx => by
    obtain ⟨⟨a, ha, hc⟩, e⟩ := hx
    exact ⟨h.alive _ _ ha hc, by rw [e, h.φ _ _ ha]⟩
  | .mapf ks vs, _, hx => by
    obtain ⟨b, ds, clock, e, hf, hb, hk, hl⟩ := hx
    exact ⟨b, ds, clock, e, h.fixB hf, by rw [h.w]; exact hb, hk, RelL.ren h hl⟩
  | .ifc t v, _, hx => by
    obtain ⟨y, e, hv⟩ := hx
    exact ⟨y, e, RelV.ren h hv⟩
theorem RelL.ren {C D : Ctx} {o p : Nat} (h : RenC C D o p) : ∀ {cs : List AV} {xs : List Value}, RelL C cs xs → RelL D (renL o p cs) xs
  | [], [], _ => trivial
  | _ :: _, _ :: _, hx => ⟨RelV.ren h hx.1, RelL.ren h hx.2⟩
  | [], _ :: _, hx => hx.elim
  | _ :: _, [], hx => hx.elim
theorem RelAt.ren {C D : Ctx} {o p : Nat} (h : RenC C D o p) : ∀ {cs : List AV} {b off : Nat}, RelAt C cs b off → RelAt D (renL o p cs) b off
  | [], _, _, _ => trivial
  | _ :: _, _, _, hx => by
    obtain ⟨⟨v, hc, h1, hv⟩, hf, hr⟩ := hx
    exact ⟨⟨v, (by rw [h.w]; exact hc), h1, RelV.ren h hv⟩, h.fixC hf, RelAt.ren h hr⟩
theorem RelRow.ren {C D : Ctx} {o p : Nat} (h : RenC C D o p) : ∀ {ds : List AV} {b off z : Nat}, RelRow C ds b off z → RelRow D (renL o p ds) b off z
  | [], _, _, _, _ => trivial
  | .agg cs :: _, _, _, _, hx => by
    simp only [RelRow, AV.ren, renL] at hx ⊢
    exact ⟨by rw [renL_length]; exact hx.1, RelAt.ren h hx.2.1, RelRow.ren h hx.2.2⟩
  | .any :: _, _, _, _, hx => by
    simp only [RelRow, AV.ren, renL] at hx ⊢
    obtain ⟨h0, ⟨v, hc, h1, hv⟩, hf, hr⟩ := hx
    exact ⟨h0, ⟨v, (by rw [h.w]; exact hc), h1, RelV.ren h hv⟩, h.fixC hf, RelRow.ren h hr⟩
  | .val _ :: _, _, _, _, hx => by
    simp only [RelRow, AV.ren, renL] at hx ⊢
    obtain ⟨h0, ⟨v, hc, h1, hv⟩, hf, hr⟩ := hx
    exact ⟨h0, ⟨v, (by rw [h.w]; exact hc), h1, RelV.ren h hv⟩, h.fixC hf, RelRow.ren h hr⟩
  | .tup _ :: _, _, _, _, hx => by
    simp only [RelRow, AV.ren, renL] at hx ⊢
    obtain ⟨h0, ⟨v, hc, h1, hv⟩, hf, hr⟩ := hx
    exact ⟨h0, ⟨v, (by rw [h.w]; exact hc), h1, RelV.ren h hv⟩, h.fixC hf, RelRow.ren h hr⟩
  | .nilsl :: _, _, _, _, hx => by
    simp only [RelRow, AV.ren, renL] at hx ⊢
    obtain ⟨h0, ⟨v, hc, h1, hv⟩, hf, hr⟩ := hx
    exact ⟨h0, ⟨v, (by rw [h.w]; exact hc), h1, RelV.ren h hv⟩, h.fixC hf, RelRow.ren h hr⟩
  | .sl _ _ :: _, _, _, _, hx => by
    simp only [RelRow, AV.ren, renL] at hx ⊢
    obtain ⟨h0, ⟨v, hc, h1, hv⟩, hf, hr⟩ := hx
    exact ⟨h0, ⟨v, (by rw [h.w]; exact hc), h1, RelV.ren h hv⟩, h.fixC hf, RelRow.ren h hr⟩
  | .slf _ _ :: _, _, _, _, hx => by
    simp only [RelRow, AV.ren, renL] at hx ⊢
    obtain ⟨h0, ⟨v, hc, h1, hv⟩, hf, hr⟩ := hx
    exact ⟨h0, ⟨v, (by rw [h.w]; exact hc), h1, RelV.ren h hv⟩, h.fixC hf, RelRow.ren h hr⟩
  | .slo _ _ _ _ :: _, _, _, _, hx => by
    simp only [RelRow, AV.ren, renL] at hx ⊢
    obtain ⟨h0, ⟨v, hc, h1, hv⟩, hf, hr⟩ := hx
    exact ⟨h0, ⟨v, (by rw [h.w]; exact hc), h1, RelV.ren h hv⟩, h.fixC hf, RelRow.ren h hr⟩
  | .er _ :: _, _, _, _, hx => by
    simp only [RelRow, AV.ren, renL] at hx ⊢
    obtain ⟨h0, ⟨v, hc, h1, hv⟩, hf, hr⟩ := hx
    exact ⟨h0, ⟨v, (by rw [h.w]; exact hc), h1, RelV.ren h hv⟩, h.fixC hf, RelRow.ren h hr⟩
  | .ref _ _ :: _, _, _, _, hx => by
    simp only [RelRow, AV.ren, renL] at hx ⊢
    obtain ⟨h0, ⟨v, hc, h1, hv⟩, hf, hr⟩ := hx
    exact ⟨h0, ⟨v, (by rw [h.w]; exact hc), h1, RelV.ren h hv⟩, h.fixC hf, RelRow.ren h hr⟩
  | .osl _ _ _ _ :: _, _, _, _, hx => by
    simp only [RelRow, AV.ren, renL] at hx ⊢
    obtain ⟨h0, ⟨v, hc, h1, hv⟩, hf, hr⟩ := hx
    exact ⟨h0, ⟨v, (by rw [h.w]; exact hc), h1, RelV.ren h hv⟩, h.fixC hf, RelRow.ren h hr⟩
  | .fn _ _ :: _, _, _, _, hx => by
    simp only [RelRow, AV.ren, renL] at hx ⊢
    obtain ⟨h0, ⟨v, hc, h1, hv⟩, hf, hr⟩ := hx
    exact ⟨h0, ⟨v, (by rw [h.w]; exact hc), h1, RelV.ren h hv⟩, h.fixC hf, RelRow.ren h hr⟩
  | .mapo _ :: _, _, _, _, hx => by
    simp only [RelRow, AV.ren, renL] at hx ⊢
    obtain ⟨h0, ⟨v, hc, h1, hv⟩, hf, hr⟩ := hx
    exact ⟨h0, ⟨v, (by rw [h.w]; exact hc), h1, RelV.ren h hv⟩, h.fixC hf, RelRow.ren h hr⟩
  | .yl _ :: _, _, _, _, hx => by
    simp only [RelRow, AV.ren, renL] at hx ⊢
    obtain ⟨h0, ⟨v, hc, h1, hv⟩, hf, hr⟩ := hx
    exact ⟨h0, ⟨v, (by rw [h.w]; exact hc), h1, RelV.ren h hv⟩, h.fixC hf, RelRow.ren h hr⟩
  | .mapf _ _ :: _, _, _, _, hx => by
    simp only [RelRow, AV.ren, renL] at hx ⊢
    obtain ⟨h0, ⟨v, hc, h1, hv⟩, hf, hr⟩ := hx
    exact ⟨h0, ⟨v, (by rw [h.w]; exact hc), h1, RelV.ren h hv⟩, h.fixC hf, RelRow.ren h hr⟩
  | .ifc _ _ :: _, _, _, _, hx => by
    simp only [RelRow, AV.ren, renL] at hx ⊢
    obtain ⟨h0, ⟨v, hc, h1, hv⟩, hf, hr⟩ := hx
    exact ⟨h0, ⟨v, (by rw [h.w]; exact hc), h1, RelV.ren h hv⟩, h.fixC hf, RelRow.ren h hr⟩
end
theorem Good.ren {C D : Ctx} {o p : Nat} (h : RenC C D o p) {k k' : Nat} {y : AO} (hφ : D.φ k' = C.φ k) (hy : Good C k y) : Good D k' (y.ren o p) := by
  cases y with
  | dead => trivial
  | cells cs =>
    obtain ⟨arr, T, h1, h2, h3, h4⟩ := hy
    exact ⟨arr, T, by rw [hφ, h.w]; exact h1, by rw [renL_length]; exact h2, by rw [renL_length]; exact RelL.ren h h3, h4⟩
  | map ks vs =>
    obtain ⟨es, clock, h1, h2, h3⟩ := hy
    exact ⟨es, clock, by rw [hφ, h.w]; exact h1, h2, RelL.ren h h3⟩
  | cap n sz =>
    intro hn
    obtain ⟨arr, T, h1, h2, h3⟩ := hy hn
    exact ⟨arr, T, by rw [hφ, h.w]; exact h1, h2, h3⟩
  | dfr =>
    obtain ⟨x, h1⟩ := hy
    exact ⟨x, by rw [hφ, h.w]; exact h1⟩
  | loop r env => exact ⟨by rw [hφ, h.w]; exact hy.1, RelL.ren h hy.2⟩
def renFrom (n o p : Nat) (l : Sto) : Sto := l.take n ++ (l.drop n).map (AO.ren o p)
theorem renFrom_len (n o p : Nat) (l : Sto) : (renFrom n o p l).length = l.length := by
  simp only [renFrom, List.length_append, List.length_take, List.length_map, List.length_drop]
  omega
theorem renFrom_get (n o p : Nat) (l : Sto) (k : Nat) : (renFrom n o p l)[k]? = if k < n then l[k]? else (l[k]?).map (AO.ren o p) := by
  unfold renFrom
  rw [List.getElem?_append]
  by_cases h : k < n
  · rw [if_pos h]
    split
    · rw [List.getElem?_take, if_pos h]
    · rename_i h2
      simp only [List.length_take] at h2
      rw [List.getElem?_map, List.getElem?_drop, List.getElem?_eq_none (by omega), List.getElem?_eq_none (by omega)]
      rfl
  · rw [if_neg h, if_neg (by simp only [List.length_take]; omega), List.getElem?_map, List.getElem?_drop]
    by_cases hl : n ≤ l.length
    · congr 2
      simp only [List.length_take]
      omega
    · rw [List.getElem?_eq_none (by simp only [List.length_take]; omega), List.getElem?_eq_none (by omega)]
theorem renFrom_app (o p : Nat) (l m : Sto) : renFrom l.length o p (l ++ m) = l ++ m.map (AO.ren o p) := by
  simp [renFrom]
def Ctx.mv (C : Ctx) (n o : Nat) (a : AO) : Ctx := { φ := fun k => if k = C.σ.length then C.φ o else C.φ k, σ := renFrom n o C.σ.length (C.σ.set o .dead) ++ [a.ren o C.σ.length], w := C.w }
theorem ren_lim (o p : Nat) (a : AO) : (a.ren o p).lim = a.lim := by cases a <;> rfl
theorem ren_isCap (o p : Nat) (a : AO) : (a.ren o p).isCap = a.isCap := by cases a <;> rfl
theorem mv_at (C : Ctx) (n o : Nat) (a : AO) : (C.mv n o a).σ[C.σ.length]? = some (a.ren o C.σ.length) := by
  show (renFrom n o C.σ.length (C.σ.set o .dead) ++ [a.ren o C.σ.length])[C.σ.length]? = _
  rw [List.getElem?_append_right (by rw [renFrom_len, List.length_set]; exact Nat.le_refl _), renFrom_len, List.length_set, Nat.sub_self]
  rfl
theorem mv_lt {C : Ctx} {n o k : Nat} {a : AO} (h : k < C.σ.length) : (C.mv n o a).σ[k]? = if k < n then (C.σ.set o .dead)[k]? else ((C.σ.set o .dead)[k]?).map (AO.ren o C.σ.length) := by
  show (renFrom n o C.σ.length (C.σ.set o .dead) ++ [a.ren o C.σ.length])[k]? = _
  rw [List.getElem?_append_left (by rw [renFrom_len, List.length_set]; exact h), renFrom_get]
theorem mv_get {C : Ctx} {n o k : Nat} {a x : AO} (h : (C.mv n o a).σ[k]? = some x) : (k = C.σ.length ∧ x = a.ren o C.σ.length) ∨ (k = o ∧ k < C.σ.length ∧ x = .dead) ∨ (k ≠ o ∧ k < C.σ.length ∧ ∃ y, C.σ[k]? = some y ∧ (x = y ∨ x = y.ren o C.σ.length)) := by
  by_cases hl : k < C.σ.length
  · rw [mv_lt hl] at h
    by_cases e : o = k
    · subst e
      refine .inr (.inl ⟨rfl, hl, ?_⟩)
      rw [List.getElem?_set] at h
      simp only [if_true, hl] at h
      split at h <;> simp [AO.ren] at h <;> exact h.symm
    · refine .inr (.inr ⟨fun e' => e e'.symm, hl, ?_⟩)
      rw [List.getElem?_set, if_neg e] at h
      split at h
      · exact ⟨x, h, .inl rfl⟩
      · obtain ⟨y, h1, h2⟩ := Option.map_eq_some_iff.1 h
        exact ⟨y, h1, .inr h2.symm⟩
  · have hlen : (C.mv n o a).σ.length = C.σ.length + 1 := by
      show (renFrom n o C.σ.length (C.σ.set o .dead) ++ [a.ren o C.σ.length]).length = _
      rw [List.length_append, renFrom_len, List.length_set]
      rfl
    have := (List.getElem?_eq_some_iff.1 h).1
    have e : k = C.σ.length := by omega
    subst e
    rw [mv_at] at h
    exact .inl ⟨rfl, (Option.some.inj h).symm⟩
theorem mv_of {C : Ctx} {n o k : Nat} {a y : AO} (h : C.σ[k]? = some y) (hk : k ≠ o) : ∃ x, (C.mv n o a).σ[k]? = some x ∧ (x = y ∨ x = y.ren o C.σ.length) := by
  rw [mv_lt (List.getElem?_eq_some_iff.1 h).1, List.getElem?_set, if_neg (fun e : o = k => hk e.symm), h]
  split
  · exact ⟨y, rfl, .inl rfl⟩
  · exact ⟨_, rfl, .inr rfl⟩
theorem mv_dead {C : Ctx} {n o : Nat} {a : AO} (h : o < C.σ.length) : (C.mv n o a).σ[o]? = some .dead := by
  rw [mv_lt h, List.getElem?_set]
  simp [h, AO.ren]
theorem mv_φ {C : Ctx} {n o k : Nat} {a : AO} (h : k < C.σ.length) : (C.mv n o a).φ k = C.φ k := by
  show (if k = C.σ.length then C.φ o else C.φ k) = _
  rw [if_neg (by omega)]
theorem mv_φp (C : Ctx) (n o : Nat) (a : AO) : (C.mv n o a).φ C.σ.length = C.φ o := by
  show (if C.σ.length = C.σ.length then C.φ o else _) = _
  rw [if_pos rfl]
theorem mv_lim {C : Ctx} {n o k l : Nat} {a : AO} (ho : C.σ[o]? = some a) (h : (C.mv n o a).lim k = some l) : ∃ k', C.lim k' = some l ∧ C.φ k' = (C.mv n o a).φ k ∧ k = rn o C.σ.length k' := by
  obtain ⟨x, h1, h2⟩ := lim_get h
  rcases mv_get h1 with ⟨rfl, rfl⟩ | ⟨_, _, rfl⟩ | ⟨h3, h4, y, h5, h6⟩
  · rw [ren_lim] at h2
    exact ⟨o, (lim_of ho).trans h2, (mv_φp ..).symm, by rw [rn, if_pos rfl]⟩
  · cases h2
  · refine ⟨k, (lim_of h5).trans ?_, (mv_φ h4).symm, by rw [rn, if_neg h3]⟩
    rcases h6 with rfl | rfl
    · exact h2
    · rwa [ren_lim] at h2
theorem mv_ext {C : Ctx} {n o : Nat} {a : AO} (ho : C.σ[o]? = some a) (hc : a.isCap = false) (hd : a ≠ .dfr) : Ext C (C.mv n o a) := by
  have hol := (List.getElem?_eq_some_iff.1 ho).1
  have hfx : ∀ b off, C.FixC b off → (C.mv n o a).FixC b off := fun b off hf => ⟨hf.1, fun k l hk e => by
    obtain ⟨k', h1, h2, _⟩ := mv_lim ho hk
    exact hf.2 k' l h1 (h2.trans e)⟩
  have hne : ∀ {k : Nat} {x : AO}, C.σ[k]? = some x → x ≠ a → k ≠ o := fun h g e => by subst e; rw [ho] at h; exact g (Option.some.inj h).symm
  refine ⟨Nat.le_refl _, fun k x h1 h2 => ⟨mv_φ (List.getElem?_eq_some_iff.1 h1).1, ?_⟩, fun k m z h1 => ⟨m, ?_, Nat.le_refl _, fun _ => mv_φ (List.getElem?_eq_some_iff.1 h1).1⟩, fun b off h => ⟨rfl, hfx b off h⟩, fun b h => ⟨rfl, h.1, fun k l hk => ?_⟩, fun _ arr _ _ h => ⟨arr, h, rfl⟩, fun k hk => ⟨?_, ?_⟩, fun k hk => .inl ?_, rfl, rfl, rfl⟩
  · by_cases e : k = o
    · subst e
      exact ⟨_, mv_dead hol, rfl⟩
    · obtain ⟨x', g1, g2⟩ := mv_of (n := n) (a := a) h1 e
      refine ⟨x', g1, ?_⟩
      rcases g2 with rfl | rfl
      · exact h2
      · rw [ren_isCap]; exact h2
  · obtain ⟨x', g1, g2⟩ := mv_of (n := n) (a := a) h1 (hne h1 (fun e => by rw [← e] at hc; cases hc))
    rcases g2 with rfl | rfl <;> exact g1
  · obtain ⟨k', h1, h2, _⟩ := mv_lim ho hk
    rw [← h2]
    exact h.2 k' l h1
  · obtain ⟨x', g1, g2⟩ := mv_of (n := n) (a := a) hk (hne hk (fun e => hd e.symm))
    rcases g2 with rfl | rfl <;> exact g1
  · rw [mv_φ (List.getElem?_eq_some_iff.1 hk).1]
    rfl
  · rcases mv_get hk with ⟨rfl, h2⟩ | ⟨_, _, h2⟩ | ⟨h3, h4, y, h5, h6⟩
    · cases a <;> first | (cases h2; done) | exact absurd rfl hd
    · cases h2
    · rcases h6 with rfl | h6
      · exact h5
      · cases y <;> first | (cases h6; done) | exact h5
theorem mv_ren {C : Ctx} {n o : Nat} {a : AO} (ho : C.σ[o]? = some a) (hc : a.isCap = false) : RenC C (C.mv n o a) o C.σ.length := by
  refine ⟨rfl, fun k x h1 => ?_, fun k x h1 h2 => ?_, fun k m z h1 => ?_, fun k l hk => ?_⟩
  · unfold rn
    split
    · rename_i e
      subst e
      exact mv_φp ..
    · exact mv_φ (List.getElem?_eq_some_iff.1 h1).1
  · unfold rn
    split
    · exact ⟨_, mv_at .., by rw [ren_isCap]; exact hc⟩
    · rename_i e
      obtain ⟨x', g1, g2⟩ := mv_of (n := n) (a := a) h1 e
      refine ⟨x', g1, ?_⟩
      rcases g2 with rfl | rfl
      · exact h2
      · rw [ren_isCap]; exact h2
  · obtain ⟨x', g1, g2⟩ := mv_of (n := n) (a := a) h1 (fun e : k = o => by subst e; rw [ho] at h1; cases h1; cases hc)
    refine ⟨?_, mv_φ (List.getElem?_eq_some_iff.1 h1).1⟩
    rcases g2 with rfl | rfl <;> exact g1
  · obtain ⟨k', h1, h2, _⟩ := mv_lim ho hk
    exact ⟨k', h1, h2⟩
/-- What lives as o lives on at the store's end; o is dead. -/
theorem AW.move (n o : Nat) {a : AO} {c : Code} {env : Env} {σ : Sto} {Q : Exit → Env → Sto → Prop} (ho : σ[o]? = some a) (hc : a.isCap = false) (hd : a ≠ .dfr)
    (h : AW F P Γ c (renL o σ.length env) (renFrom n o σ.length (σ.set o .dead) ++ [a.ren o σ.length]) Q) : AW F P Γ c env σ Q := by
  intro C x hs
  obtain ⟨rfl, hS, hG, hL, hD⟩ := hs
  have hext := mv_ext (n := n) ho hc hd
  have hren := mv_ren (n := n) ho hc
  have hrel : RelS (C.mv n o a) := by
    refine RelS.of (fun k x hk => ?_) (fun k k' h1 h2 e => ?_)
    · rcases mv_get hk with ⟨rfl, rfl⟩ | ⟨_, _, rfl⟩ | ⟨h3, h4, y, h5, h6⟩
      · exact Good.ren hren (mv_φp ..) (hS.good ho)
      · trivial
      · rcases h6 with rfl | rfl
        · exact (hS.good h5).mono hext (mv_φ h4) (fun _ => rfl)
        · exact Good.ren hren (mv_φ h4) (hS.good h5)
    · obtain ⟨l, h1⟩ := Option.isSome_iff_exists.1 h1
      obtain ⟨l', h2⟩ := Option.isSome_iff_exists.1 h2
      obtain ⟨j, a1, a2, a3⟩ := mv_lim ho h1
      obtain ⟨j', b1, b2, b3⟩ := mv_lim ho h2
      have := hS.inj j j' (by rw [a1]; rfl) (by rw [b1]; rfl) (a2.trans (e.trans b2.symm))
      rw [a3, b3, this]
  refine wpIn_mono (h (C.mv n o a) x ⟨rfl, hrel, RelG.mono hext hG, RelL.ren hren hL, hD.mono hext⟩) fun e a' w hp => hp.trans hext
end Go.Proofs.Ev

