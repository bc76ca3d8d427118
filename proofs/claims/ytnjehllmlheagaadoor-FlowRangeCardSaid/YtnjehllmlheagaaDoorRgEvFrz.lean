import Derived.Test.YtnjehllmlheagaaDoorRgEvF
/-! What lives is frozen while the code goes on. -/
namespace Go.Proofs.Ev
set_option linter.unusedSimpArgs false
set_option linter.unusedVariables false
open Go
variable {F : Fr} {P : Program} {Γ : List (Nat × List AV)}

mutual
/-- The row that lives as o, told as the frozen row es. -/
def AV.sub (o len sz : Nat) (es : List AV) : AV → AV
  | .osl o' off l z => if o' = o ∧ off = 0 ∧ l = len ∧ z = sz then .sl sz es else .osl o' off l z
  | .agg cs => .agg (subL o len sz es cs)
  | .tup cs => .tup (subL o len sz es cs)
  | .sl z ds => .sl z (subL o len sz es ds)
  | .slf z ds => .slf z (subL o len sz es ds)
  | .slo nl z ds k => .slo nl z (subL o len sz es ds) k
  | .er cs => .er (subL o len sz es cs)
  | .fn f cs => .fn f (subL o len sz es cs)
  | .mapf ks vs => .mapf ks (subL o len sz es vs)
  | .ifc t v => .ifc t (v.sub o len sz es)
  | .any => .any
  | .val v => .val v
  | .nilsl => .nilsl
  | .ref o' k => .ref o' k
  | .mapo o' => .mapo o'
  | .yl o' => .yl o'
def subL (o len sz : Nat) (es : List AV) : List AV → List AV
  | [] => []
  | c :: cs => c.sub o len sz es :: subL o len sz es cs
end
theorem subL_length (o len sz : Nat) (es : List AV) : ∀ l : List AV, (subL o len sz es l).length = l.length
  | [] => rfl
  | _ :: l => congrArg (· + 1) (subL_length o len sz es l)
def AO.sub (o len sz : Nat) (es : List AV) : AO → AO
  | .cells cs => .cells (subL o len sz es cs)
  | .map ks vs => .map ks (subL o len sz es vs)
  | .dead => .dead
  | .cap n z => .cap n z
  | .dfr => .dfr
  | .loop r env => .loop r (subL o len sz es env)
structure SubC (C D : Ctx) (o len sz : Nat) (es : List AV) : Prop where
  w : D.w = C.w
  φ : D.φ = C.φ
  alive : ∀ (k : Nat) (a : AO), C.σ[k]? = some a → a.isCap = false → ∃ a' : AO, D.σ[k]? = some a' ∧ a'.isCap = false
  caps : ∀ (k n z : Nat), C.σ[k]? = some (.cap n z) → D.σ[k]? = some (.cap n z)
  lim : ∀ (k l : Nat), D.lim k = some l → C.lim k = some l
  row : ∀ (x : Value), RelV C (.osl o 0 len sz) x → RelV D (.sl sz es) x
theorem SubC.fixC {C D : Ctx} {o len sz : Nat} {es : List AV} (h : SubC C D o len sz es) {b off : Nat} (hf : C.FixC b off) : D.FixC b off := ⟨by rw [h.w]; exact hf.1, fun k l hk e => hf.2 k l (h.lim k l hk) (by rw [← h.φ]; exact e)⟩
theorem SubC.fixB {C D : Ctx} {o len sz : Nat} {es : List AV} (h : SubC C D o len sz es) {b : Nat} (hf : C.FixB b) : D.FixB b := ⟨by rw [h.w]; exact hf.1, fun k l hk e => hf.2 k l (h.lim k l hk) (by rw [← h.φ]; exact e)⟩
mutual
theorem RelV.sub {C D : Ctx} {o len sz : Nat} {es : List AV} (h : SubC C D o len sz es) : ∀ {c : AV} {x : Value}, RelV C c x → RelV D (c.sub o len sz es) x
  | .any, _, _ => trivial
  | .val _, _, hx => by simpa [RelV, AV.sub] using hx
  | .agg cs, _, hx => by
    obtain ⟨xs, e, hl⟩ := hx
    exact ⟨xs, e, RelL.sub h hl⟩
  | .tup cs, _, hx => by
    obtain ⟨xs, e, hl⟩ := hx
    exact ⟨xs, e, RelL.sub h hl⟩
  | .nilsl, _, hx => by simpa [RelV, AV.sub] using hx
  | .sl z ds, _, hx => by
    obtain ⟨b, off, c, s, e, hs, h1, h1', hr⟩ := hx
    refine ⟨b, off, c, s, by rw [subL_length]; exact e, ?_, by rw [subL_length]; exact h1, h1', RelRow.sub h hr⟩
    rcases hs with e | e
    · subst e
      exact .inl rfl
    · exact .inr e
  | .slf z ds, _, hx => by
    obtain ⟨b, e, hs, h1, h1', hr⟩ := hx
    have hnil : subL o len sz es ds = [] → ds = [] := fun e => List.eq_nil_of_length_eq_zero (by rw [← subL_length o len sz es ds, e]; rfl)
    exact ⟨b, by rw [subL_length]; exact e, fun e => hs (hnil e), h1, by rw [subL_length]; exact h1', RelRow.sub h hr⟩
  | .slo nl z ds k, _, hx => by
    obtain ⟨m, h1, h2, h3, h4, h5⟩ := hx
    have hnil : subL o len sz es ds = [] → ds = [] := fun e => List.eq_nil_of_length_eq_zero (by rw [← subL_length o len sz es ds, e]; rfl)
    refine ⟨m, h.caps _ _ _ h1, by rw [subL_length]; exact h2, h3, fun e => h4 (hnil e), fun hne => ?_⟩
    obtain ⟨b, off, c, e, k1, k2, k3, k4⟩ := h5 (fun e => hne (by rw [e]; rfl))
    refine ⟨b, off, c, by rw [subL_length]; exact e, by rw [subL_length]; exact k1, k2, fun he => ?_, RelRow.sub h k4⟩
    obtain ⟨l1, l2, arr, T, l3, l4⟩ := k3 (by rw [subL_length] at he; exact he)
    exact ⟨by rw [h.φ]; exact l1, l2, arr, T, by rw [h.w]; exact l3, l4⟩
  | .er cs, _, hx => by
    obtain ⟨b, off, e, hr⟩ := hx
    exact ⟨b, off, e, RelAt.sub h hr⟩
  | .ref o' off, _, hx => by
    obtain ⟨⟨a, ha, hc⟩, e⟩ := hx
    exact ⟨h.alive _ _ ha hc, by rw [e, h.φ]⟩
  | .osl o' off l z, x, hx => by
    unfold AV.sub
    split
    · rename_i hc
      obtain ⟨rfl, rfl, rfl, rfl⟩ := hc
      exact h.row x hx
    · obtain ⟨⟨a, ha, hc⟩, c, arr, T, e, h1, h2, h3, h4⟩ := hx
      exact ⟨h.alive _ _ ha hc, c, arr, T, by rw [e, h.φ], h1, h2, by rw [h.φ, h.w]; exact h3, h4⟩
  | .fn f caps, _, hx => by
    obtain ⟨xs, e, hl⟩ := hx
    exact ⟨xs, e, RelL.sub h hl⟩
  | .mapo o', _, hx => by
    obtain ⟨⟨a, ha, hc⟩, e⟩ := hx
    exact ⟨h.alive _ _ ha hc, by rw [e, h.φ]⟩
  | .yl o', _, hx => by
    obtain ⟨⟨a, ha, hc⟩, e⟩ := hx
    exact ⟨h.alive _ _ ha hc, by rw [e, h.φ]⟩
  | .mapf ks vs, _, hx => by
    obtain ⟨b, ds, clock, e, hf, hb, hk, hl⟩ := hx
    exact ⟨b, ds, clock, e, h.fixB hf, by rw [h.w]; exact hb, hk, RelL.sub h hl⟩
  | .ifc t v, _, hx => by
    obtain ⟨y, e, hv⟩ := hx
    exact ⟨y, e, RelV.sub h hv⟩
theorem RelL.sub {C D : Ctx} {o len sz : Nat} {es : List AV} (h : SubC C D o len sz es) : ∀ {cs : List AV} {xs : List Value}, RelL C cs xs → RelL D (subL o len sz es cs) xs
  | [], [], _ => trivial
  | _ :: _, _ :: _, hx => ⟨RelV.sub h hx.1, RelL.sub h hx.2⟩
  | [], _ :: _, hx => hx.elim
  | _ :: _, [], hx => hx.elim
theorem RelAt.sub {C D : Ctx} {o len sz : Nat} {es : List AV} (h : SubC C D o len sz es) : ∀ {cs : List AV} {b off : Nat}, RelAt C cs b off → RelAt D (subL o len sz es cs) b off
  | [], _, _, _ => trivial
  | _ :: _, _, _, hx => by
    obtain ⟨⟨v, hc, h1, hv⟩, hf, hr⟩ := hx
    exact ⟨⟨v, (by rw [h.w]; exact hc), h1, RelV.sub h hv⟩, h.fixC hf, RelAt.sub h hr⟩
theorem RelRow.sub {C D : Ctx} {o len sz : Nat} {es : List AV} (h : SubC C D o len sz es) : ∀ {ds : List AV} {b off z : Nat}, RelRow C ds b off z → RelRow D (subL o len sz es ds) b off z
  | [], _, _, _, _ => trivial
  | .agg cs :: _, _, _, _, hx => by
    simp only [RelRow, AV.sub, subL] at hx ⊢
    exact ⟨by rw [subL_length]; exact hx.1, RelAt.sub h hx.2.1, RelRow.sub h hx.2.2⟩
  | .osl o' k l z' :: _, _, _, _, hx => by
    simp only [RelRow] at hx
    obtain ⟨h0, ⟨v, hc, h1, hv⟩, hf, hr⟩ := hx
    have hv' := RelV.sub h hv
    have hr' := RelRow.sub h hr
    simp only [subL]
    unfold AV.sub at hv' ⊢
    split at hv' <;> rename_i hcnd
    · rw [if_pos hcnd]
      exact ⟨h0, ⟨v, (by rw [h.w]; exact hc), h1, hv'⟩, h.fixC hf, hr'⟩
    · rw [if_neg hcnd]
      exact ⟨h0, ⟨v, (by rw [h.w]; exact hc), h1, hv'⟩, h.fixC hf, hr'⟩
  | .any :: _, _, _, _, hx => by
    simp only [RelRow, AV.sub, subL] at hx ⊢
    obtain ⟨h0, ⟨v, hc, h1, hv⟩, hf, hr⟩ := hx
    exact ⟨h0, ⟨v, (by rw [h.w]; exact hc), h1, RelV.sub h hv⟩, h.fixC hf, RelRow.sub h hr⟩
  | .val _ :: _, _, _, _, hx => by
    simp only [RelRow, AV.sub, subL] at hx ⊢
    obtain ⟨h0, ⟨v, hc, h1, hv⟩, hf, hr⟩ := hx
    exact ⟨h0, ⟨v, (by rw [h.w]; exact hc), h1, RelV.sub h hv⟩, h.fixC hf, RelRow.sub h hr⟩
  | .tup _ :: _, _, _, _, hx => by
    simp only [RelRow, AV.sub, subL] at hx ⊢
    obtain ⟨h0, ⟨v, hc, h1, hv⟩, hf, hr⟩ := hx
    exact ⟨h0, ⟨v, (by rw [h.w]; exact hc), h1, RelV.sub h hv⟩, h.fixC hf, RelRow.sub h hr⟩
  | .nilsl :: _, _, _, _, hx => by
    simp only [RelRow, AV.sub, subL] at hx ⊢
    obtain ⟨h0, ⟨v, hc, h1, hv⟩, hf, hr⟩ := hx
    exact ⟨h0, ⟨v, (by rw [h.w]; exact hc), h1, RelV.sub h hv⟩, h.fixC hf, RelRow.sub h hr⟩
  | .sl _ _ :: _, _, _, _, hx => by
    simp only [RelRow, AV.sub, subL] at hx ⊢
    obtain ⟨h0, ⟨v, hc, h1, hv⟩, hf, hr⟩ := hx
    exact ⟨h0, ⟨v, (by rw [h.w]; exact hc), h1, RelV.sub h hv⟩, h.fixC hf, RelRow.sub h hr⟩
  | .slf _ _ :: _, _, _, _, hx => by
    simp only [RelRow, AV.sub, subL] at hx ⊢
    obtain ⟨h0, ⟨v, hc, h1, hv⟩, hf, hr⟩ := hx
    exact ⟨h0, ⟨v, (by rw [h.w]; exact hc), h1, RelV.sub h hv⟩, h.fixC hf, RelRow.sub h hr⟩
  | .slo _ _ _ _ :: _, _, _, _, hx => by
    simp only [RelRow, AV.sub, subL] at hx ⊢
    obtain ⟨h0, ⟨v, hc, h1, hv⟩, hf, hr⟩ := hx
    exact ⟨h0, ⟨v, (by rw [h.w]; exact hc), h1, RelV.sub h hv⟩, h.fixC hf, RelRow.sub h hr⟩
  | .er _ :: _, _, _, _, hx => by
    simp only [RelRow, AV.sub, subL] at hx ⊢
    obtain ⟨h0, ⟨v, hc, h1, hv⟩, hf, hr⟩ := hx
    exact ⟨h0, ⟨v, (by rw [h.w]; exact hc), h1, RelV.sub h hv⟩, h.fixC hf, RelRow.sub h hr⟩
  | .ref _ _ :: _, _, _, _, hx => by
    simp only [RelRow, AV.sub, subL] at hx ⊢
    obtain ⟨h0, ⟨v, hc, h1, hv⟩, hf, hr⟩ := hx
    exact ⟨h0, ⟨v, (by rw [h.w]; exact hc), h1, RelV.sub h hv⟩, h.fixC hf, RelRow.sub h hr⟩
  | .fn _ _ :: _, _, _, _, hx => by
    simp only [RelRow, AV.sub, subL] at hx ⊢
    obtain ⟨h0, ⟨v, hc, h1, hv⟩, hf, hr⟩ := hx
    exact ⟨h0, ⟨v, (by rw [h.w]; exact hc), h1, RelV.sub h hv⟩, h.fixC hf, RelRow.sub h hr⟩
  | .mapo _ :: _, _, _, _, hx => by
    simp only [RelRow, AV.sub, subL] at hx ⊢
    obtain ⟨h0, ⟨v, hc, h1, hv⟩, hf, hr⟩ := hx
    exact ⟨h0, ⟨v, (by rw [h.w]; exact hc), h1, RelV.sub h hv⟩, h.fixC hf, RelRow.sub h hr⟩
  | .yl _ :: _, _, _, _, hx => by
    simp only [RelRow, AV.sub, subL] at hx ⊢
    obtain ⟨h0, ⟨v, hc, h1, hv⟩, hf, hr⟩ := hx
    exact ⟨h0, ⟨v, (by rw [h.w]; exact hc), h1, RelV.sub h hv⟩, h.fixC hf, RelRow.sub h hr⟩
  | .mapf _ _ :: _, _, _, _, hx => by
    simp only [RelRow, AV.sub, subL] at hx ⊢
    obtain ⟨h0, ⟨v, hc, h1, hv⟩, hf, hr⟩ := hx
    exact ⟨h0, ⟨v, (by rw [h.w]; exact hc), h1, RelV.sub h hv⟩, h.fixC hf, RelRow.sub h hr⟩
  | .ifc _ _ :: _, _, _, _, hx => by
    simp only [RelRow, AV.sub, subL] at hx ⊢
    obtain ⟨h0, ⟨v, hc, h1, hv⟩, hf, hr⟩ := hx
    exact ⟨h0, ⟨v, (by rw [h.w]; exact hc), h1, RelV.sub h hv⟩, h.fixC hf, RelRow.sub h hr⟩
end

def subFrom (n o len sz : Nat) (es : List AV) (l : Sto) : Sto := l.take n ++ (l.drop n).map (AO.sub o len sz es)
theorem subFrom_get (n o len sz : Nat) (es : List AV) (l : Sto) (k : Nat) : (subFrom n o len sz es l)[k]? = if k < n then l[k]? else (l[k]?).map (AO.sub o len sz es) := by
  unfold subFrom
  rw [List.getElem?_append]
  by_cases h : k < n
  · rw [if_pos h]
    split
    · rw [List.getElem?_take, if_pos h]
    · rename_i h2
      simp only [List.length_take] at h2
      rw [List.getElem?_map, List.getElem?_drop, List.getElem?_eq_none (by omega), List.getElem?_eq_none (by omega)]
      rfl
  · rw [if_neg h, if_neg (by simp only [List.length_take]; omega), List.getElem?_map, List.getElem?_drop]
    by_cases hl : n ≤ l.length
    · congr 2
      simp only [List.length_take]
      omega
    · rw [List.getElem?_eq_none (by simp only [List.length_take]; omega), List.getElem?_eq_none (by omega)]
theorem subFrom_app (o len sz : Nat) (es : List AV) (l m : Sto) : subFrom l.length o len sz es (l ++ m) = l ++ m.map (AO.sub o len sz es) := by
  simp [subFrom]
def Ctx.frz (C : Ctx) (n o len sz : Nat) (es : List AV) : Ctx := { C with σ := subFrom n o len sz es (C.σ.set o .dead) }
theorem frz_get {C : Ctx} {n o len sz k : Nat} {es : List AV} {x : AO} (h : (C.frz n o len sz es).σ[k]? = some x) : ∃ y, (C.kill o).σ[k]? = some y ∧ (x = y ∨ x = y.sub o len sz es) := by
  have h : (subFrom n o len sz es (C.σ.set o .dead))[k]? = some x := h
  rw [subFrom_get] at h
  split at h
  · exact ⟨x, h, .inl rfl⟩
  · obtain ⟨y, h1, h2⟩ := Option.map_eq_some_iff.1 h
    exact ⟨y, h1, .inr h2.symm⟩
theorem sub_lim (o len sz : Nat) (es : List AV) (a : AO) : (a.sub o len sz es).lim = a.lim := by cases a <;> rfl
theorem sub_isCap (o len sz : Nat) (es : List AV) (a : AO) : (a.sub o len sz es).isCap = a.isCap := by cases a <;> rfl
theorem frz_lim {C : Ctx} {n o len sz k l : Nat} {es : List AV} (h : (C.frz n o len sz es).lim k = some l) : (C.kill o).lim k = some l := by
  obtain ⟨a, h1, h2⟩ := lim_get h
  obtain ⟨y, h3, h4⟩ := frz_get h1
  rcases h4 with rfl | rfl
  · exact (lim_of h3).trans h2
  · rw [sub_lim] at h2
    exact (lim_of h3).trans h2
theorem frz_of {C : Ctx} {n o len sz k : Nat} {es : List AV} {y : AO} (h : (C.kill o).σ[k]? = some y) : ∃ x, (C.frz n o len sz es).σ[k]? = some x ∧ (x = y ∨ x = y.sub o len sz es) := by
  have h' : (C.σ.set o .dead)[k]? = some y := h
  show ∃ x, (subFrom n o len sz es (C.σ.set o .dead))[k]? = some x ∧ _
  rw [subFrom_get, h']
  split
  · exact ⟨y, rfl, .inl rfl⟩
  · exact ⟨_, rfl, .inr rfl⟩
theorem frz_alive {C : Ctx} {n o len sz k : Nat} {es : List AV} {y : AO} (h : (C.kill o).σ[k]? = some y) (hc : y.isCap = false) : ∃ x, (C.frz n o len sz es).σ[k]? = some x ∧ x.isCap = false := by
  obtain ⟨x, h1, h2⟩ := frz_of (n := n) (len := len) (sz := sz) (es := es) h
  rcases h2 with rfl | rfl
  · exact ⟨_, h1, hc⟩
  · exact ⟨_, h1, by rw [sub_isCap]; exact hc⟩
theorem frz_cap {C : Ctx} {n o len sz k m z : Nat} {es : List AV} (h : (C.kill o).σ[k]? = some (.cap m z)) : (C.frz n o len sz es).σ[k]? = some (.cap m z) := by
  obtain ⟨x, h1, h2⟩ := frz_of (n := n) (len := len) (sz := sz) (es := es) h
  rcases h2 with rfl | rfl <;> exact h1
theorem frz_dfr {C : Ctx} {n o len sz k : Nat} {es : List AV} (h : (C.kill o).σ[k]? = some .dfr) : (C.frz n o len sz es).σ[k]? = some .dfr := by
  obtain ⟨x, h1, h2⟩ := frz_of (n := n) (len := len) (sz := sz) (es := es) h
  rcases h2 with rfl | rfl <;> exact h1
theorem frz_undfr {C : Ctx} {n o len sz k : Nat} {es : List AV} (h : (C.frz n o len sz es).σ[k]? = some .dfr) : (C.kill o).σ[k]? = some .dfr := by
  obtain ⟨y, h1, h2⟩ := frz_get h
  rcases h2 with rfl | h2
  · exact h1
  · cases y <;> first | (cases h2; done) | exact h1
theorem frz_ext (C : Ctx) (n o len sz : Nat) (es : List AV) : Ext (C.kill o) (C.frz n o len sz es) := by
  refine ⟨Nat.le_refl _, fun k x h1 h2 => ⟨rfl, frz_alive h1 h2⟩, fun k m z h1 => ⟨m, frz_cap h1, Nat.le_refl _, fun _ => rfl⟩, fun _ _ h => ⟨rfl, h.1, fun k l hk => h.2 k l (frz_lim hk)⟩, fun _ h => ⟨rfl, h.1, fun k l hk => h.2 k l (frz_lim hk)⟩, fun _ arr _ _ h => ⟨arr, h, rfl⟩, fun k hk => ⟨frz_dfr hk, rfl⟩, fun k hk => .inl (frz_undfr hk), rfl, rfl, rfl⟩
/-- A row that lives is frozen: o's cells are es, one after the other. -/
theorem AW.freeze (n o len sz : Nat) (es : List AV) {c : Code} {env : Env} {σ : Sto} {Q : Exit → Env → Sto → Prop} {cs : List AV} (ho : σ[o]? = some (.cells cs)) (hcs : es.flatMap AV.cells = cs) (hlen : es.length = len) (hsz : ∀ e ∈ es, e.cells.length = sz)
    (h : AW F P Γ c (subL o len sz es env) (subFrom n o len sz es (σ.set o .dead)) Q) : AW F P Γ c env σ Q := by
  intro C a hs
  obtain ⟨rfl, hS, hG, hL, hD⟩ := hs
  have hke := kill_ext ho rfl (by simp)
  have hkr := kill_rel hS ho rfl (by simp)
  have hfe := frz_ext C n o len sz es
  obtain ⟨arr, T, hb, hn, hl, h1⟩ := hS.cells o cs ho
  obtain ⟨xs, l1, l2, l3⟩ := obj_cells hS ho 0
  have hrow : RelRow (C.kill o) es (C.φ o) 0 sz := by
    refine relRow_of hsz ?_
    rw [hcs]
    refine relAt_of (xs := xs) (RelL.mono hke (by simpa using l1)) (fun j u hj => ⟨?_, l3 u (List.mem_of_getElem? hj)⟩) (fun j _ => ⟨lt_of_heap hb, fun k l hk e => ?_⟩)
    · have := l2 j u hj
      rw [add_lit] at this
      exact this
    · obtain ⟨hne, hk'⟩ := kill_lim hk
      have := hS.inj k o (by rw [hk']; rfl) (by rw [lim_of ho]; rfl) e
      exact absurd this hne
  have hsub : SubC (C.kill o) (C.frz n o len sz es) o len sz es := by
    refine ⟨rfl, rfl, fun k x g1 g2 => frz_alive g1 g2, fun k m z g1 => frz_cap g1, fun k l hk => frz_lim hk, fun x hx => ?_⟩
    obtain ⟨_, c', arr', T', rfl, g1, g2, _, _⟩ := hx
    exact ⟨C.φ o, 0, c', none, by rw [hlen]; rfl, .inr rfl, by omega, g2, RelRow.mono hfe hrow⟩
  have hext : Ext C (C.frz n o len sz es) := hke.trans hfe
  have hrel : RelS (C.frz n o len sz es) := by
    refine ⟨fun k ds hk => ?_, fun k ks vs hk => ?_, fun k n z hk hpos => ?_, fun k hk => hkr.dfr k (frz_undfr hk), fun k r e hk => ?_, fun k k' h1 h2 e => ?_⟩
    · obtain ⟨y, g1, g2⟩ := frz_get hk
      rcases g2 with rfl | g2
      · obtain ⟨arr', T', a1, a2, a3, a4⟩ := hkr.cells k ds g1
        exact ⟨arr', T', a1, a2, RelL.mono hfe a3, a4⟩
      cases y with
      | cells ds' =>
        cases g2
        obtain ⟨arr', T', a1, a2, a3, a4⟩ := hkr.cells k ds' g1
        exact ⟨arr', T', a1, by rw [subL_length]; exact a2, by rw [subL_length]; exact RelL.sub hsub a3, a4⟩
      | _ => cases g2
    · obtain ⟨y, g1, g2⟩ := frz_get hk
      rcases g2 with rfl | g2
      · obtain ⟨ds, clock, a1, a2, a3⟩ := hkr.map k ks vs g1
        exact ⟨ds, clock, a1, a2, RelL.mono hfe a3⟩
      cases y with
      | map ks' vs' =>
        cases g2
        obtain ⟨ds, clock, a1, a2, a3⟩ := hkr.map k _ _ g1
        exact ⟨ds, clock, a1, a2, RelL.sub hsub a3⟩
      | _ => cases g2
    · obtain ⟨y, g1, g2⟩ := frz_get hk
      rcases g2 with rfl | g2
      · exact hkr.cap k _ _ g1 hpos
      cases y with
      | cap n' z' =>
        cases g2
        exact hkr.cap k _ _ g1 hpos
      | _ => cases g2
    · obtain ⟨y, g1, g2⟩ := frz_get hk
      rcases g2 with rfl | g2
      · obtain ⟨a1, a2⟩ := hkr.loop k r e g1
        exact ⟨a1, RelL.mono hfe a2⟩
      cases y with
      | loop r' e' =>
        cases g2
        obtain ⟨a1, a2⟩ := hkr.loop k _ _ g1
        exact ⟨a1, RelL.sub hsub a2⟩
      | _ => cases g2
    · obtain ⟨l, h1⟩ := Option.isSome_iff_exists.1 h1
      obtain ⟨l', h2⟩ := Option.isSome_iff_exists.1 h2
      exact hkr.inj k k' (by rw [frz_lim h1]; rfl) (by rw [frz_lim h2]; rfl) e
  refine wpIn_mono (h (C.frz n o len sz es) a ⟨rfl, hrel, RelG.mono hext hG, RelL.sub hsub (RelL.mono hke hL), hD.mono hext⟩) fun e a' w hp => hp.trans hext
end Go.Proofs.Ev

