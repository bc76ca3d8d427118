import Derived.Test.YteekpkbmkibacaaREvF
/-! What lives is frozen while the code goes on. -/
namespace Go.Proofs.Ev
set_option linter.unusedSimpArgs false
set_option linter.unusedVariables false
open Go
variable {F : Fr} {P : Program} {Γ : List (Nat × List AV)}

mutual
/-- The row that lives as o, told as the frozen row es. -/
def AV.sub (o len sz : Nat) (es : List AV) : AV → AV
  | .osl o' off l z => if o' = o ∧ off = 0 ∧ l = len ∧ z = sz then .sl sz es else .osl o' off l z
  | .agg cs => .agg (subL o len sz es cs)
  | .tup cs => .tup (subL o len sz es cs)
  | .sl z ds => .sl z (subL o len sz es ds)
  | .slf z ds => .slf z (subL o len sz es ds)
  | .slo nl z ds k => .slo nl z (subL o len sz es ds) k
  | .er cs => .er (subL o len sz es cs)
  | .fn f cs => .fn f (subL o len sz es cs)
  | .mapf ks vs => .mapf ks (subL o len sz es vs)
  | .ifc t v => .ifc t (v.sub o len sz es)
  | .any => .any
  | .val v => .val v
  | .nilsl => .nilsl
  | .ref o' k => .ref o' k
  | .mapo o' => .mapo o'
  | .yl o' => .yl o'
def subL (o len sz : Nat) (es : List AV) : List AV → List AV
  | [] => []
  | c :: cs => c.sub o len sz es :: subL o len sz es cs
end
theorem subL_length (o len sz : Nat) (es : List AV) : ∀ l : List AV, (subL o len sz es l).length = l.length
  | [] => rfl
  | _ :: l => congrArg (· + 1) (subL_length o len sz es l)
def AO.sub (o len sz : Nat) (es : List AV) : AO → AO
  | .cells cs => .cells (subL o len sz es cs)
  | .map ks vs => .map ks (subL o len sz es vs)
  | .dead => .dead
  | .cap n z => .cap n z
  | .dfr => .dfr
  | .loop r env => .loop r (subL o len sz es env)
structure SubC (C D : Ctx) (o len sz : Nat) (es : List AV) : Prop where
  w : D.w = C.w
  φ : D.φ = C.φ
  alive : ∀ (k : Nat) (a : AO), C.σ[k]? = some a → a.isCap = false → ∃ a' : AO, D.σ[k]? = some a' ∧ a'.isCap = false
  caps : ∀ (k n z : Nat), C.σ[k]? = some (.cap n z) → D.σ[k]? = some (.cap n z)
  lim : ∀ (k l : Nat), D.lim k = some l → C.lim k = some l
  row : ∀ (x : Value), RelV C (.osl o 0 len sz) x → RelV D (.sl sz es) x
theorem SubC.fixC {C D : Ctx} {o len sz : Nat} {es : List AV} (h : SubC C D o len sz es) {b off : Nat} (hf : C.FixC b off) : D.FixC b off := ⟨by rw [h.w]; exact hf.1, fun k l hk e => hf.2 k l (h.lim k l hk) (by rw [← h.φ]; exact e)⟩
theorem SubC.fixB {C D : Ctx} {o len sz : Nat} {es : List AV} (h : SubC C D o len sz es) {b : Nat} (hf : C.FixB b) : D.FixB b := ⟨by rw [h.w]; exact hf.1, fun k l hk e => hf.2 k l (h.lim k l hk) (by rw [← h.φ]; exact e)⟩
mutual
theorem RelV.sub {C D : Ctx} {o len sz : Nat} {es : List AV} (h : SubC C D o len sz es) : ∀ {c : AV} {x : Value}, RelV C c x → RelV D (c.sub o len sz es) x
  | .any, _, _ => trivial
  | .val _, _, hx => by simpa [RelV, AV.sub] using hx
  | .agg cs, _, hx => by
    obtain ⟨xs, e, hl⟩ := hx
    exact ⟨xs, e, RelL.sub h hl⟩
  | .tup cs, _, hx => by
    obtain ⟨xs, e, hl⟩ := hx
    exact ⟨xs, e, RelL.sub h hl⟩
  | .nilsl, _, hx => by simpa [RelV, AV.sub] using hx
  | .sl z ds, _, hx => by
    obtain ⟨b, off, c, s, e, hs, h1, h1', hr⟩ := hx
    refine ⟨b, off, c, s, by rw [subL_length]; exact e, ?_, by rw [subL_length]; exact h1, h1', RelRow.sub h hr⟩
    rcases hs with e | e
    · subst e
      exact .inl rfl
    · exact .inr e
  | .slf z ds, _, hx => by
    obtain ⟨b, e, hs, h1, h1', hr⟩ := hx
    have hnil : subL o len sz es ds = [] → ds = [] := fun e => List.eq_nil_of_length_eq_zero (by rw [← subL_length o len sz es ds, e]; rfl)
    exact ⟨b, by rw [subL_length]; exact e, fun e => hs (hnil e), h1, by rw [subL_length]; exact h1', RelRow.sub h hr⟩
  | .slo nl z ds k, _, hx => by
    obtain ⟨m, h1, h2, h3, h4, h5⟩ := hx
    have hnil : subL o len sz es ds = [] → ds = [] := fun e => List.eq_nil_of_length_eq_zero (by rw [← subL_length o len sz es ds, e]; rfl)
    refine ⟨m, h.caps _ _ _ h1, by rw [subL_length]; exact h2, h3, fun e => h4 (hnil e), fun hne => ?_⟩
    obtain ⟨b, off, c, e, k1, k2, k3, k4⟩ := h5 (fun e => hne (by rw [e]; rfl))
    refine ⟨b, off, c, by rw [subL_length]; exact e, by rw [subL_length]; exact k1, k2, fun he => ?_, RelRow.sub h k4⟩
    obtain ⟨l1, l2, arr, T, l3, l4⟩ := k3 (by rw [subL_length] at he; exact he)
    exact ⟨by rw [h.φ]; exact l1, l2, arr, T, by rw [h.w]; exact l3, l4⟩
  | .er cs, _, hx => by
    obtain ⟨b, off, e, hr⟩ := hx
    exact ⟨b, off, e, RelAt.sub h hr⟩
  | .ref o' off, _, hx => by
    obtain ⟨⟨a, ha, hc⟩, e⟩ := hx
    exact ⟨h.alive _ _ ha hc, by rw [e, h.φ]⟩
  | .osl o' off l z, x, hx => by
    unfold AV.sub
    split
    · rename_i hc
      obtain ⟨rfl, rfl, rfl, rfl⟩ := hc
      exact h.row x hx
    · obtain ⟨⟨a, ha, hc⟩, c, arr, T, e, h1, h2, h3, h4⟩ := hx
      exact ⟨h.alive _ _ ha hc, c, arr, T, by rw [e, h.φ], h1, h2, by rw [h.φ, h.w]; exact h3, h4⟩
  | .fn f caps, _, hx => by
    obtain ⟨xs, e, hl⟩ := hx
    exact ⟨xs, e, RelL.sub h hl⟩
  | .mapo o', _, hx => by
    obtain ⟨⟨a, ha, hc⟩, e⟩ := hx
    exact ⟨h.alive _ _ ha hc, by rw [e, h.φ]⟩
  | .yl o', _, hx => by
    obtain ⟨⟨a, ha, hc⟩, e⟩ := hx
    exact ⟨h.alive _ _ ha hc, by rw [e, h.φ]⟩
  | .mapf ks vs, _, hx => by
    obtain ⟨b, ds, clock, e, hf, hb, hk, hl⟩ := hx
    exact ⟨b, ds, clock, e, h.fixB hf, by rw [h.w]; exact hb, hk, RelL.sub h hl⟩
  | .ifc t v, _, hx => by
    obtain ⟨y, e, hv⟩ := hx
    exact ⟨y, e, RelV.sub h hv⟩
theorem RelL.sub {C D : Ctx} {o len sz : Nat} {es : List AV} (h : SubC C D o len sz es) : ∀ {cs : List AV} {xs : List Value}, RelL C cs xs → RelL D (subL o len sz es cs) xs
  | [], [], _ => trivial
  | _ :: _, _ :: _, hx => ⟨RelV.sub h hx.1, RelL.sub h hx.2⟩
  | [], _ :: _, hx => hx.elim
  | _ :: _, [], hx => hx.elim
theorem RelAt.sub {C D : Ctx} {o len sz : Nat} {es : List AV} (h : SubC C D o len sz es) : ∀ {cs : List AV} {b off : Nat}, RelAt C cs b off → RelAt D (subL o len sz es cs) b off
  | [], _, _, _ => trivial
  | _ :: _, _, _, hx => by
    obtain ⟨⟨v, hc, h1, hv⟩, hf, hr⟩ := hx
    exact ⟨⟨v, (by rw [h.w]; exact hc), h1, RelV.sub h hv⟩, h.fixC hf, RelAt.sub h hr⟩
theorem RelRow.sub {C D : Ctx} {o len sz : Nat} {es : List AV} (h : SubC C D o len sz es) : ∀ {ds : List AV} {b off z : Nat}, RelRow C ds b off z → RelRow D (subL o len sz es ds) b off z
  | [], _, _, _, _ => trivial
  | .agg cs :: _, _, _, _, hx => by
    simp only [RelRow, AV.sub, subL] at hx ⊢
    exact ⟨by rw [subL_length]; exact hx.1, RelAt.sub h hx.2.1, RelRow.sub h hx.2.2⟩
  | .osl o' k l z' :: _, _, _, _, hx => by
    simp only [RelRow] at hx
    obtain ⟨h0, ⟨v, hc, h1, hv⟩, hf, hr⟩ := hx
    have hv' := RelV.sub h hv
    have hr' := RelRow.sub h hr
    simp only [subL]
    unfold AV.sub at hv' ⊢
    split at hv' <;> rename_i hcnd
    · rw [if_pos hcnd]
      exact ⟨h0, ⟨v, (by rw [h.w]; exact hc), h1, hv'⟩, h.fixC hf, hr'⟩
    · rw [if_neg hcnd]
      exact ⟨h0, ⟨v, (by rw [h.w]; exact hc), h1, hv'⟩, h.fixC hf, hr'⟩
  | .any :: _, _, _, _, hx => by
    simp only [RelRow, AV.sub, subL] at hx ⊢
    obtain ⟨h0, ⟨v, hc, h1, hv⟩, hf, hr⟩ := hx
    exact ⟨h0, ⟨v, (by rw [h.w]; exact hc), h1, RelV.sub h hv⟩, h.fixC hf, RelRow.sub h hr⟩
  | .val _ :: _, _, _, _, hx => by
    simp only [RelRow, AV.sub, subL] at hx ⊢
    obtain ⟨h0, ⟨v, hc, h1, hv⟩, hf, hr⟩ := hx
    exact ⟨h0, ⟨v, (by rw [h.w]; exact hc), h1, RelV.sub h hv⟩, h.fixC hf, RelRow.sub h hr⟩
  | .tup _ :: _, _, _, _, hx => by
    simp only [RelRow, AV.sub, subL] at hx ⊢
    obtain ⟨h0, ⟨v, hc, h1, hv⟩, hf, hr⟩ := hx
    exact ⟨h0, ⟨v, (by rw [h.w]; exact hc), h1, RelV.sub h hv⟩, h.fixC hf, RelRow.sub h hr⟩
  | .nilsl :: _, _, _, _, hx => by
    simp only [RelRow, AV.sub, subL] at hx ⊢
    obtain ⟨h0, ⟨v, hc, h1, hv⟩, hf, hr⟩ := hx
    exact ⟨h0, ⟨v, (by rw [h.w]; exact hc), h1, RelV.sub h hv⟩, h.fixC hf, RelRow.sub h hr⟩
  | .sl _ _ :: _, _, _, _, hx => by
    simp only [RelRow, AV.sub, subL] at hx ⊢
    obtain ⟨h0, ⟨v, hc, h1, hv⟩, hf, hr⟩ := hx
    exact ⟨h0, ⟨v, (by rw [h.w]; exact hc), h1, RelV.sub h hv⟩, h.fixC hf, RelRow.sub h hr⟩
  | .slf _ _ :: _, _, _, _, hx => by
    simp only [RelRow, AV.sub, subL] at hx ⊢
    obtain ⟨h0, ⟨v, hc, h1, hv⟩, hf, hr⟩ := hx
    exact ⟨h0, ⟨v, (by rw [h.w]; exact hc), h1, RelV.sub h hv⟩, h.fixC hf, RelRow.sub h hr⟩
  | .slo _ _ _ _ :: _, _, _, _, hx => by
    simp only [RelRow, AV.sub, subL] at hx ⊢
    obtain ⟨h0, ⟨v, hc, h1, hv⟩, hf, hr⟩ := hx
    exact ⟨h0, ⟨v, (by rw [h.w]; exact hc), h1, RelV.sub h hv⟩, h.fixC hf, RelRow.sub h hr⟩
  | .er _ :: _, _, _, _, hx => by
    simp only [RelRow, AV.sub, subL] at hx ⊢
    obtain ⟨h0, ⟨v, hc, h1, hv⟩, hf, hr⟩ := hx
    exact ⟨h0, ⟨v, (by rw [h.w]; exact hc), h1, RelV.sub h hv⟩, h.fixC hf, RelRow.sub h hr⟩
  | .ref _ _ :: _, _, _, _, hx => by
    simp only [RelRow, AV.sub, subL] at hx ⊢
    obtain ⟨h0, ⟨v, hc, h1, hv⟩, hf, hr⟩ := hx
    exact ⟨h0, ⟨v, (by rw [h.w]; exact hc), h1, RelV.sub h hv⟩, h.fixC hf, RelRow.sub h hr⟩
  | .fn _ _ :: _, _, _, _, hx => by
    simp only [RelRow, AV.sub, subL] at hx ⊢
    obtain ⟨h0, ⟨v, hc, h1, hv⟩, hf, hr⟩ := hx
    exact ⟨h0, ⟨v, (by rw [h.w]; exact hc), h1, RelV.sub h hv⟩, h.fixC hf, RelRow.sub h hr⟩
  | .mapo _ :: _, _, _, _, hx => by
    simp only [RelRow, AV.sub, subL] at hx ⊢
    obtain ⟨h0, ⟨v, hc, h1, hv⟩, hf, hr⟩ := hx
    exact ⟨h0, ⟨v, (by rw [h.w]; exact hc), h1, RelV.sub h hv⟩, h.fixC hf, RelRow.sub h hr⟩
  | .yl _ :: _, _, _, _, hx => by
    simp only [RelRow, AV.sub, subL] at hx ⊢
    obtain ⟨h0, ⟨v, hc, h1, hv⟩, hf, hr⟩ := hx
    exact ⟨h0, ⟨v, (by rw [h.w]; exact hc), h1, RelV.sub h hv⟩, h.fixC hf, RelRow.sub h hr⟩
  | .mapf _ _ :: _, _, _, _, hx => by
    simp only [RelRow, AV.sub, subL] at hx ⊢
    obtain ⟨h0, ⟨v, hc, h1, hv⟩, hf, hr⟩ := hx
    exact ⟨h0, ⟨v, (by rw [h.w]; exact hc), h1, RelV.sub h hv⟩, h.fixC hf, RelRow.sub h hr⟩
  | .ifc _ _ :: _, _, _, _, hx => by
    simp only [RelRow, AV.sub, subL] at hx ⊢
    obtain ⟨h0, ⟨v, hc, h1, hv⟩, hf, hr⟩ := hx
    exact ⟨h0, ⟨v, (by rw [h.w]; exact hc), h1, RelV.sub h hv⟩, h.fixC hf, RelRow.sub h hr⟩
end

end Go.Proofs.Ev

