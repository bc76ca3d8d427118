import Derived.Test.YteekpkbmkibacaaDoorEvRun
/-! What was made and is no longer reached is forgotten; what is handed back is frozen. -/
namespace Go.Proofs.Ev
set_option linter.unusedSimpArgs false
set_option linter.unusedVariables false
open Go
variable {P : Program} {Γ : List (Nat × List AV)}

mutual
/-- Each identity in it is below n. -/
def AV.bel (n : Nat) : AV → Bool
  | .any | .val _ | .nilsl => true
  | .agg cs | .tup cs | .sl _ cs | .slf _ cs | .er cs | .fn _ cs | .mapf _ cs => belL n cs
  | .ref o _ | .osl o _ _ _ | .mapo o | .yl o => decide (o < n)
  | .slo _ _ es k => decide (k < n) && belL n es
  | .ifc _ v => v.bel n
def belL (n : Nat) : List AV → Bool
  | [] => true
  | c :: cs => c.bel n && belL n cs
end
theorem belL_all {n : Nat} : ∀ {cs : List AV}, (∀ c ∈ cs, c.bel n = true) → belL n cs = true
  | [], _ => rfl
  | c :: cs, h => by
    simp only [belL, Bool.and_eq_true]
    exact ⟨h c List.mem_cons_self, belL_all fun d hd => h d (List.mem_cons_of_mem _ hd)⟩
theorem belL_map {n : Nat} {α : Type} (f : α → AV) (l : List α) (h : ∀ x ∈ l, (f x).bel n = true) : belL n (l.map f) = true := belL_all fun c hc => by
  obtain ⟨x, hx, rfl⟩ := List.mem_map.1 hc
  exact h x hx

/-- Fewer things live, and nothing else has turned. -/
structure Less (n : Nat) (C D : Ctx) : Prop where
  sz : C.w.heap.size ≤ D.w.heap.size
  blk : ∀ (b : Nat) (arr : Array Value) (T : TypeId) (fr : Nat × Nat), C.w.heap[b]? = some (.cells arr T fr) → D.w.heap[b]? = some (.cells arr T fr)
  mp : ∀ (b : Nat) (es : Array MapEntry) (ck : Nat), C.w.heap[b]? = some (.map es ck) → D.w.heap[b]? = some (.map es ck)
  old : ∀ o, o < n → D.σ[o]? = C.σ[o]? ∧ D.φ o = C.φ o
  lim : ∀ o l, D.lim o = some l → ∃ o', C.lim o' = some l ∧ D.φ o = C.φ o'
theorem Less.of {n : Nat} {C D : Ctx} (w : D.w = C.w) (old : ∀ o, o < n → D.σ[o]? = C.σ[o]? ∧ D.φ o = C.φ o) (lim : ∀ o l, D.lim o = some l → ∃ o', C.lim o' = some l ∧ D.φ o = C.φ o') : Less n C D :=
  ⟨by rw [w]; exact Nat.le_refl _, fun _ _ _ _ h => by rw [w]; exact h, fun _ _ _ h => by rw [w]; exact h, old, lim⟩
theorem Less.cell {n : Nat} {C D : Ctx} (h : Less n C D) {a : Addr} {v : Value} (hc : C.w.cell? a = some v) : D.w.cell? a = some v := by
  unfold World.cell? at hc ⊢
  split at hc
  · rename_i arr T fr hb
    rw [h.blk _ _ _ _ hb]
    exact hc
  · cases hc
theorem Less.fixC {n : Nat} {C D : Ctx} (h : Less n C D) {b off : Nat} (hf : C.FixC b off) : D.FixC b off := ⟨Nat.lt_of_lt_of_le hf.1 h.sz, fun o l ho e => by
  obtain ⟨o', h1, h2⟩ := h.lim o l ho
  exact hf.2 o' l h1 (by rw [← h2]; exact e)⟩
theorem Less.fixB {n : Nat} {C D : Ctx} (h : Less n C D) {b : Nat} (hf : C.FixB b) : D.FixB b := ⟨Nat.lt_of_lt_of_le hf.1 h.sz, fun o l ho e => by
  obtain ⟨o', h1, h2⟩ := h.lim o l ho
  exact hf.2 o' l h1 (by rw [← h2]; exact e)⟩
mutual
theorem RelV.keep {n : Nat} {C D : Ctx} (h : Less n C D) : ∀ {c : AV} {x : Value}, c.bel n = true → RelV C c x → RelV D c x
  | .any, _, _, _ => trivial
  | .val _, _, _, hx => by simpa [RelV] using hx
  | .agg cs, _, hp, hx => by
    obtain ⟨xs, e, hl⟩ := hx
    exact ⟨xs, e, RelL.keep h (by simpa [AV.bel] using hp) hl⟩
  | .tup cs, _, hp, hx => by
    obtain ⟨xs, e, hl⟩ := hx
    exact ⟨xs, e, RelL.keep h (by simpa [AV.bel] using hp) hl⟩
  | .nilsl, _, _, hx => by simpa [RelV] using hx
  | .sl sz es, _, hp, hx => by
    obtain ⟨b, off, c, s, e, hs, h1, h1', hr⟩ := hx
    exact ⟨b, off, c, s, e, hs, h1, h1', RelRow.keep h (by simpa [AV.bel] using hp) hr⟩
  | .slf sz es, _, hp, hx => by
    obtain ⟨b, e, hs, h1, h1', hr⟩ := hx
    exact ⟨b, e, hs, h1, h1', RelRow.keep h (by simpa [AV.bel] using hp) hr⟩
  | .slo nl sz es k, _, hp, hx => by
    simp only [AV.bel, Bool.and_eq_true, decide_eq_true_eq] at hp
    obtain ⟨m, h1, h2, h3, h4, h5⟩ := hx
    have ho := h.old k hp.1
    refine ⟨m, by rw [ho.1]; exact h1, h2, h3, h4, fun hne => ?_⟩
    obtain ⟨b, off, c, e, k1, k2, k3, k4⟩ := h5 hne
    refine ⟨b, off, c, e, k1, k2, fun he => ?_, RelRow.keep h hp.2 k4⟩
    obtain ⟨l1, l2, arr, T, l3, l4⟩ := k3 he
    exact ⟨l1.trans ho.2.symm, l2, arr, T, h.blk _ _ _ _ l3, l4⟩
  | .er cs, _, hp, hx => by
    obtain ⟨b, off, e, hr⟩ := hx
    exact ⟨b, off, e, RelAt.keep h (by simpa [AV.bel] using hp) hr⟩
  | .ref o off, _, hp, hx => by
    obtain ⟨⟨a, ha, hc⟩, e⟩ := hx
    have ho := h.old o (by simpa [AV.bel] using hp)
    exact ⟨⟨a, ho.1.trans ha, hc⟩, by rw [e, ho.2]⟩
  | .osl o off len sz, _, hp, hx => by
    obtain ⟨⟨a, ha, hc⟩, c, arr, T, e, h1, h2, h3, h4⟩ := hx
    have ho := h.old o (by simpa [AV.bel] using hp)
    exact ⟨⟨a, ho.1.trans ha, hc⟩, c, arr, T, by rw [e, ho.2], h1, h2, by rw [ho.2]; exact h.blk _ _ _ _ h3, h4⟩
  | .fn f caps, _, hp, hx => by
    obtain ⟨xs, e, hl⟩ := hx
    exact ⟨xs, e, RelL.keep h (by simpa [AV.bel] using hp) hl⟩
  | .mapo o, _, hp, hx => by
    obtain ⟨⟨a, ha, hc⟩, e⟩ := hx
    have ho := h.old o (by simpa [AV.bel] using hp)
    exact ⟨⟨a, ho.1.trans ha, hc⟩, by rw [e, ho.2]⟩
  | .yl o, _, hp, hx => by
    obtain ⟨⟨a, ha, hc⟩, e⟩ := hx
    have ho := h.old o (by simpa [AV.bel] using hp)
    exact ⟨⟨a, ho.1.trans ha, hc⟩, by rw [e, ho.2]⟩
  | .mapf ks vs, _, hp, hx => by
    obtain ⟨b, es, clock, e, hf, hb, hk, hl⟩ := hx
    exact ⟨b, es, clock, e, h.fixB hf, h.mp _ _ _ hb, hk, RelL.keep h (by simpa [AV.bel] using hp) hl⟩
  | .ifc t v, _, hp, hx => by
    obtain ⟨y, e, hv⟩ := hx
    exact ⟨y, e, RelV.keep h (by simpa [AV.bel] using hp) hv⟩
theorem RelL.keep {n : Nat} {C D : Ctx} (h : Less n C D) : ∀ {cs : List AV} {xs : List Value}, belL n cs = true → RelL C cs xs → RelL D cs xs
  | [], [], _, _ => trivial
  | _ :: _, _ :: _, hp, hx => by
    simp only [belL, Bool.and_eq_true] at hp
    exact ⟨RelV.keep h hp.1 hx.1, RelL.keep h hp.2 hx.2⟩
  | [], _ :: _, _, hx => hx.elim
  | _ :: _, [], _, hx => hx.elim
theorem RelAt.keep {n : Nat} {C D : Ctx} (h : Less n C D) : ∀ {cs : List AV} {b off : Nat}, belL n cs = true → RelAt C cs b off → RelAt D cs b off
  | [], _, _, _, _ => trivial
  | _ :: _, a, i, hp, hx => by
    simp only [belL, Bool.and_eq_true] at hp
    obtain ⟨⟨v, hc, h1, hv⟩, hf, hr⟩ := hx
    exact ⟨⟨v, (h.cell hc), h1, RelV.keep h hp.1 hv⟩, h.fixC hf, RelAt.keep h hp.2 hr⟩
theorem RelRow.keep {n : Nat} {C D : Ctx} (h : Less n C D) : ∀ {es : List AV} {b off sz : Nat}, belL n es = true → RelRow C es b off sz → RelRow D es b off sz
  | [], _, _, _, _, _ => trivial
  | .agg cs :: es, _, _, _, hp, hx => by
    simp only [RelRow, belL, AV.bel, Bool.and_eq_true] at hx hp ⊢
    exact ⟨hx.1, RelAt.keep h hp.1 hx.2.1, RelRow.keep h hp.2 hx.2.2⟩
  | .any :: es, b, off, sz, hp, hx => by
    simp only [RelRow, belL, Bool.and_eq_true] at hx hp ⊢
    obtain ⟨h0, ⟨v, hc, h1, hv⟩, hf, hr⟩ := hx
    exact ⟨h0, ⟨v, (h.cell hc), h1, RelV.keep h hp.1 hv⟩, h.fixC hf, RelRow.keep h hp.2 hr⟩
  | .val _ :: es, b, off, sz, hp, hx => by
    simp only [RelRow, belL, Bool.and_eq_true] at hx hp ⊢
    obtain ⟨h0, ⟨v, hc, h1, hv⟩, hf, hr⟩ := hx
    exact ⟨h0, ⟨v, (h.cell hc), h1, RelV.keep h hp.1 hv⟩, h.fixC hf, RelRow.keep h hp.2 hr⟩
  | .tup _ :: es, b, off, sz, hp, hx => by
    simp only [RelRow, belL, Bool.and_eq_true] at hx hp ⊢
    obtain ⟨h0, ⟨v, hc, h1, hv⟩, hf, hr⟩ := hx
    exact ⟨h0, ⟨v, (h.cell hc), h1, RelV.keep h hp.1 hv⟩, h.fixC hf, RelRow.keep h hp.2 hr⟩
  | .nilsl :: es, b, off, sz, hp, hx => by
    simp only [RelRow, belL, Bool.and_eq_true] at hx hp ⊢
    obtain ⟨h0, ⟨v, hc, h1, hv⟩, hf, hr⟩ := hx
    exact ⟨h0, ⟨v, (h.cell hc), h1, RelV.keep h hp.1 hv⟩, h.fixC hf, RelRow.keep h hp.2 hr⟩
  | .sl _ _ :: es, b, off, sz, hp, hx => by
    simp only [RelRow, belL, Bool.and_eq_true] at hx hp ⊢
    obtain ⟨h0, ⟨v, hc, h1, hv⟩, hf, hr⟩ := hx
    exact ⟨h0, ⟨v, (h.cell hc), h1, RelV.keep h hp.1 hv⟩, h.fixC hf, RelRow.keep h hp.2 hr⟩
  | .slf _ _ :: es, b, off, sz, hp, hx => by
    simp only [RelRow, belL, Bool.and_eq_true] at hx hp ⊢
    obtain ⟨h0, ⟨v, hc, h1, hv⟩, hf, hr⟩ := hx
    exact ⟨h0, ⟨v, (h.cell hc), h1, RelV.keep h hp.1 hv⟩, h.fixC hf, RelRow.keep h hp.2 hr⟩
  | .slo _ _ _ _ :: es, b, off, sz, hp, hx => by
    simp only [RelRow, belL, Bool.and_eq_true] at hx hp ⊢
    obtain ⟨h0, ⟨v, hc, h1, hv⟩, hf, hr⟩ := hx
    exact ⟨h0, ⟨v, (h.cell hc), h1, RelV.keep h hp.1 hv⟩, h.fixC hf, RelRow.keep h hp.2 hr⟩
  | .er _ :: es, b, off, sz, hp, hx => by
    simp only [RelRow, belL, Bool.and_eq_true] at hx hp ⊢
    obtain ⟨h0, ⟨v, hc, h1, hv⟩, hf, hr⟩ := hx
    exact ⟨h0, ⟨v, (h.cell hc), h1, RelV.keep h hp.1 hv⟩, h.fixC hf, RelRow.keep h hp.2 hr⟩
  | .ref _ _ :: es, b, off, sz, hp, hx => by
    simp only [RelRow, belL, Bool.and_eq_true] at hx hp ⊢
    obtain ⟨h0, ⟨v, hc, h1, hv⟩, hf, hr⟩ := hx
    exact ⟨h0, ⟨v, (h.cell hc), h1, RelV.keep h hp.1 hv⟩, h.fixC hf, RelRow.keep h hp.2 hr⟩
  | .osl _ _ _ _ :: es, b, off, sz, hp, hx => by
    simp only [RelRow, belL, Bool.and_eq_true] at hx hp ⊢
    obtain ⟨h0, ⟨v, hc, h1, hv⟩, hf, hr⟩ := hx
    exact ⟨h0, ⟨v, (h.cell hc), h1, RelV.keep h hp.1 hv⟩, h.fixC hf, RelRow.keep h hp.2 hr⟩
  | .fn _ _ :: es, b, off, sz, hp, hx => by
    simp only [RelRow, belL, Bool.and_eq_true] at hx hp ⊢
    obtain ⟨h0, ⟨v, hc, h1, hv⟩, hf, hr⟩ := hx
    exact ⟨h0, ⟨v, (h.cell hc), h1, RelV.keep h hp.1 hv⟩, h.fixC hf, RelRow.keep h hp.2 hr⟩
  | .mapo _ :: es, b, off, sz, hp, hx => by
    simp only [RelRow, belL, Bool.and_eq_true] at hx hp ⊢
    obtain ⟨h0, ⟨v, hc, h1, hv⟩, hf, hr⟩ := hx
    exact ⟨h0, ⟨v, (h.cell hc), h1, RelV.keep h hp.1 hv⟩, h.fixC hf, RelRow.keep h hp.2 hr⟩
  | .yl _ :: es, b, off, sz, hp, hx => by
    simp only [RelRow, belL, Bool.and_eq_true] at hx hp ⊢
    obtain ⟨h0, ⟨v, hc, h1, hv⟩, hf, hr⟩ := hx
    exact ⟨h0, ⟨v, (h.cell hc), h1, RelV.keep h hp.1 hv⟩, h.fixC hf, RelRow.keep h hp.2 hr⟩
  | .mapf _ _ :: es, b, off, sz, hp, hx => by
    simp only [RelRow, belL, Bool.and_eq_true] at hx hp ⊢
    obtain ⟨h0, ⟨v, hc, h1, hv⟩, hf, hr⟩ := hx
    exact ⟨h0, ⟨v, (h.cell hc), h1, RelV.keep h hp.1 hv⟩, h.fixC hf, RelRow.keep h hp.2 hr⟩
  | .ifc _ _ :: es, b, off, sz, hp, hx => by
    simp only [RelRow, belL, Bool.and_eq_true] at hx hp ⊢
    obtain ⟨h0, ⟨v, hc, h1, hv⟩, hf, hr⟩ := hx
    exact ⟨h0, ⟨v, (h.cell hc), h1, RelV.keep h hp.1 hv⟩, h.fixC hf, RelRow.keep h hp.2 hr⟩
end

mutual
/-- v, what it leads to among what lives from n on told as it stands: v'. -/
inductive Frz (n : Nat) (σ : Sto) : AV → AV → Prop
  | keep {v : AV} : v.bel n = true → Frz n σ v v
  | agg {cs ds : List AV} : FrzL n σ cs ds → Frz n σ (.agg cs) (.agg ds)
  | tup {cs ds : List AV} : FrzL n σ cs ds → Frz n σ (.tup cs) (.tup ds)
  | row {o off len sz : Nat} {cs es : List AV} : n ≤ o → σ[o]? = some (.cells cs) → off + len * sz ≤ cs.length → FrzL n σ ((cs.drop off).take (len * sz)) (es.flatMap AV.cells) → es.length = len → (∀ e ∈ es, e.cells.length = sz) →
      Frz n σ (.osl o off len sz) (.sl sz es)
  | own {nl : Bool} {sz : Nat} {es es' : List AV} {k : Nat} : n ≤ k → es ≠ [] → FrzR n σ es es' → Frz n σ (.slo nl sz es k) (.sl sz es')
  | ownNil {sz k : Nat} : Frz n σ (.slo true sz [] k) .nilsl
  | ownEmp {sz k : Nat} : Frz n σ (.slo false sz [] k) (.sl sz [])
inductive FrzL (n : Nat) (σ : Sto) : List AV → List AV → Prop
  | nil : FrzL n σ [] []
  | cons {c d : AV} {cs ds : List AV} : Frz n σ c d → FrzL n σ cs ds → FrzL n σ (c :: cs) (d :: ds)
/-- Elements: of the same size each. -/
inductive FrzR (n : Nat) (σ : Sto) : List AV → List AV → Prop
  | nil : FrzR n σ [] []
  | cons {c d : AV} {cs ds : List AV} : FrzL n σ c.cells d.cells → c.cells.length = d.cells.length → FrzR n σ cs ds → FrzR n σ (c :: cs) (d :: ds)
end
theorem FrzR.length {n : Nat} {σ : Sto} {cs ds : List AV} (h : FrzR n σ cs ds) : ds.length = cs.length := by
  induction cs generalizing ds with
  | nil => cases h; rfl
  | cons c cs ih => cases h with | cons _ _ h3 => simp [ih h3]
theorem FrzL.keep {n : Nat} {σ : Sto} : ∀ {cs : List AV}, belL n cs = true → FrzL n σ cs cs
  | [], _ => .nil
  | c :: cs, h => by
    simp only [belL, Bool.and_eq_true] at h
    exact .cons (.keep h.1) (FrzL.keep h.2)
theorem FrzR.keep {n : Nat} {σ : Sto} : ∀ {cs : List AV}, belL n cs = true → FrzR n σ cs cs
  | [], _ => .nil
  | c :: cs, h => by
    simp only [belL, Bool.and_eq_true] at h
    refine .cons ?_ rfl (FrzR.keep h.2)
    cases c with
    | agg ds =>
      show FrzL n σ ds ds
      exact FrzL.keep (by simpa [AV.bel] using h.1)
    | _ => exact .cons (.keep h.1) .nil
theorem FrzL.append {n : Nat} {σ : Sto} {cs ds cs' ds' : List AV} (h : FrzL n σ cs ds) (k : FrzL n σ cs' ds') : FrzL n σ (cs ++ cs') (ds ++ ds') := by
  induction cs generalizing ds with
  | nil => cases h; exact k
  | cons c cs ih => cases h with | cons h1 h2 => exact .cons h1 (ih h2)

def Ctx.trunc (C : Ctx) (n : Nat) : Ctx := { C with σ := C.σ.take n }
theorem trunc_get {C : Ctx} {n k : Nat} {x : AO} (h : (C.trunc n).σ[k]? = some x) : k < n ∧ C.σ[k]? = some x := by
  simp only [Ctx.trunc, List.getElem?_take] at h
  split at h
  · exact ⟨by assumption, h⟩
  · simp at h
theorem trunc_lim {C : Ctx} {n o l : Nat} (h : (C.trunc n).lim o = some l) : o < n ∧ C.lim o = some l := by
  obtain ⟨a, h1, h2⟩ := lim_get h
  exact ⟨(trunc_get h1).1, (lim_of (trunc_get h1).2).trans h2⟩
theorem trunc_at {C : Ctx} {n o : Nat} (h : o < n) : (C.trunc n).σ[o]? = C.σ[o]? := by
  simp only [Ctx.trunc, List.getElem?_take]
  rw [if_pos h]
theorem trunc_less (C : Ctx) (n : Nat) : Less n C (C.trunc n) := .of rfl (fun _ ho => ⟨trunc_at ho, rfl⟩) (fun o _ h => ⟨o, (trunc_lim h).2, rfl⟩)
theorem trunc_ext {C D : Ctx} (h : Ext C D) {n : Nat} (hn : C.σ.length = n) : Ext C (D.trunc n) := {
  size := h.size
  ids := fun o a h1 h2 => by
    obtain ⟨g1, a', g2, g3⟩ := h.ids o a h1 h2
    exact ⟨g1, a', by rw [trunc_at (by rw [← hn]; exact get_lt h1)]; exact g2, g3⟩
  caps := fun o m sz h1 => by
    obtain ⟨n', g1, g2, g3⟩ := h.caps o m sz h1
    exact ⟨n', by rw [trunc_at (by rw [← hn]; exact get_lt h1)]; exact g1, g2, g3⟩
  fixC := fun b off hb => ⟨(h.fixC b off hb).1, (trunc_less D n).fixC (h.fixC b off hb).2⟩
  fixB := fun b hb => ⟨(h.fixB b hb).1, (trunc_less D n).fixB (h.fixB b hb).2⟩
  shape := h.shape
  dfr := fun o ho => by
    obtain ⟨g1, g2⟩ := h.dfr o ho
    exact ⟨by rw [trunc_at (by rw [← hn]; exact get_lt ho)]; exact g1, g2⟩
  fresh := fun o ho => h.fresh o (trunc_get ho).2
  os := h.os
  tape := h.tape
  output := h.output }

mutual
theorem Frz.rel {C : Ctx} (hS : RelS C) {n : Nat} : ∀ {v v' : AV} {x : Value}, Frz n C.σ v v' → RelV C v x → RelV (C.trunc n) v' x
  | _, _, _, .keep hp, hx => RelV.keep (trunc_less C n) hp hx
  | _, _, _, .agg hl, hx => by
    obtain ⟨xs, e, h⟩ := hx
    exact ⟨xs, e, FrzL.rel hS hl h⟩
  | _, _, _, .tup hl, hx => by
    obtain ⟨xs, e, h⟩ := hx
    exact ⟨xs, e, FrzL.rel hS hl h⟩
  | _, _, _, @Frz.row _ _ o off len sz cs es ho hc hfit hl hlen hsz, hx => by
    obtain ⟨_, c, arr, T, rfl, h1, h2, hb, _⟩ := hx
    obtain ⟨arr', T', hb', hn', hl', h1'⟩ := hS.cells o cs hc
    have hlive : C.lim o = some 0 := lim_of hc
    obtain ⟨xs, l1, l2, l3⟩ := obj_cells hS hc off
    have l4 := FrzL.rel hS hl (relL_take (len * sz) l1)
    refine ⟨C.φ o, off, c, none, by rw [hlen], .inr rfl, by omega, h2, relRow_of hsz (relAt_of l4 (fun j u hj => ?_) (fun j _ => ⟨lt_of_heap hb', fun k l hk e => ?_⟩))⟩
    · rw [List.getElem?_take] at hj
      split at hj
      · have := l2 j u hj
        rw [add_lit] at this
        exact ⟨this, l3 u (List.mem_of_getElem? hj)⟩
      · simp at hj
    · obtain ⟨k1, k2⟩ := trunc_lim hk
      have := hS.inj k o (by rw [k2]; rfl) (by rw [hlive]; rfl) e
      omega
  | _, _, _, @Frz.own _ _ nl sz es es' k hk hne hr, hx => by
    obtain ⟨m, h1, h2, h3, h4, h5⟩ := hx
    obtain ⟨b, off, c, rfl, k1, k2, k3, k4⟩ := h5 hne
    have hlen := hr.length
    exact ⟨b, off, c, none, by rw [hlen], .inr rfl, by omega, k2, FrzR.rel hS hr k4⟩
  | _, _, _, .ownNil, hx => by
    obtain ⟨m, h1, h2, h3, h4, h5⟩ := hx
    obtain ⟨A, rfl, hA, _⟩ := h4 rfl
    cases A with
    | none => rfl
    | some a => cases hA
  | _, _, _, .ownEmp, hx => by
    obtain ⟨m, h1, h2, h3, h4, h5⟩ := hx
    obtain ⟨A, rfl, hA, hs⟩ := h4 rfl
    cases A with
    | none => cases hA
    | some a =>
      obtain ⟨b, off, s⟩ := a
      exact ⟨b, off, 0, s, rfl, .inl rfl, by simp, by simp, trivial⟩
theorem FrzL.rel {C : Ctx} (hS : RelS C) {n : Nat} : ∀ {cs ds : List AV} {xs : List Value}, FrzL n C.σ cs ds → RelL C cs xs → RelL (C.trunc n) ds xs
  | _, _, [], .nil, _ => trivial
  | _, _, _ :: _, .cons h1 h2, hx => ⟨Frz.rel hS h1 hx.1, FrzL.rel hS h2 hx.2⟩
  | _, _, _ :: _, .nil, hx => hx.elim
  | _, _, [], .cons _ _, hx => hx.elim
theorem FrzL.relAt {C : Ctx} (hS : RelS C) {n : Nat} : ∀ {cs ds : List AV} {b off : Nat}, FrzL n C.σ cs ds → RelAt C cs b off → RelAt (C.trunc n) ds b off
  | _, _, _, _, .nil, _ => trivial
  | _, _, _, _, .cons h1 h2, hx => by
    obtain ⟨⟨v, hc, ho, hv⟩, hf, hr⟩ := hx
    exact ⟨⟨v, hc, ho, Frz.rel hS h1 hv⟩, (trunc_less C n).fixC hf, FrzL.relAt hS h2 hr⟩
theorem FrzR.rel {C : Ctx} (hS : RelS C) {n : Nat} : ∀ {es es' : List AV} {b off sz : Nat}, FrzR n C.σ es es' → RelRow C es b off sz → RelRow (C.trunc n) es' b off sz
  | _, _, _, _, _, .nil, _ => trivial
  | _, _, _, _, _, .cons h1 h2 h3, hx => by
    obtain ⟨k1, k2, k3⟩ := relRow_cons.1 hx
    exact relRow_cons.2 ⟨h2.symm.trans k1, FrzL.relAt hS h1 k2, FrzR.rel hS h3 k3⟩
end

mutual
theorem RelV.bel {C : Ctx} : ∀ {c : AV} {x : Value}, RelV C c x → c.bel C.σ.length = true
  | .any, _, _ => rfl
  | .val _, _, _ => rfl
  | .nilsl, _, _ => rfl
  | .agg _, _, hx => by
    obtain ⟨_, _, h⟩ := hx
    simpa [AV.bel] using RelL.bel h
  | .tup _, _, hx => by
    obtain ⟨_, _, h⟩ := hx
    simpa [AV.bel] using RelL.bel h
  | .sl _ _, _, hx => by
    obtain ⟨_, _, _, _, _, _, _, _, h⟩ := hx
    simpa [AV.bel] using RelRow.bel h
  | .slf _ _, _, hx => by
    obtain ⟨_, _, _, _, _, h⟩ := hx
    simpa [AV.bel] using RelRow.bel h
  | .slo _ _ es _, _, hx => by
    obtain ⟨_, h1, _, _, _, h5⟩ := hx
    have hk := get_lt h1
    by_cases he : es = []
    · simp [AV.bel, he, belL, hk]
    · obtain ⟨_, _, _, _, _, _, _, h⟩ := h5 he
      simp [AV.bel, RelRow.bel h, hk]
  | .er _, _, hx => by
    obtain ⟨_, _, _, h⟩ := hx
    simpa [AV.bel] using RelAt.bel h
  | .ref _ _, _, hx => by
    obtain ⟨⟨_, h, _⟩, _⟩ := hx
    simpa [AV.bel] using get_lt h
  | .osl _ _ _ _, _, hx => by
    obtain ⟨⟨_, h, _⟩, _⟩ := hx
    simpa [AV.bel] using get_lt h
  | .mapo _, _, hx => by
    obtain ⟨⟨_, h, _⟩, _⟩ := hx
    simpa [AV.bel] using get_lt h
  | .yl _, _, hx => by
    obtain ⟨⟨_, h, _⟩, _⟩ := hx
    simpa [AV.bel] using get_lt h
  | .fn _ _, _, hx => by
    obtain ⟨_, _, h⟩ := hx
    simpa [AV.bel] using RelL.bel h
  | .mapf _ _, _, hx => by
    obtain ⟨_, _, _, _, _, _, _, h⟩ := hx
    simpa [AV.bel] using RelL.bel h
  | .ifc _ _, _, hx => by
    obtain ⟨_, _, h⟩ := hx
    simpa [AV.bel] using RelV.bel h
theorem RelL.bel {C : Ctx} : ∀ {cs : List AV} {xs : List Value}, RelL C cs xs → belL C.σ.length cs = true
  | [], [], _ => rfl
  | _ :: _, _ :: _, hx => by simp [belL, RelV.bel hx.1, RelL.bel hx.2]
  | [], _ :: _, hx => hx.elim
  | _ :: _, [], hx => hx.elim
theorem RelAt.bel {C : Ctx} : ∀ {cs : List AV} {b off : Nat}, RelAt C cs b off → belL C.σ.length cs = true
  | [], _, _, _ => rfl
  | _ :: _, _, _, hx => by
    obtain ⟨⟨_, _, _, hv⟩, _, hr⟩ := hx
    simp [belL, RelV.bel hv, RelAt.bel hr]
theorem RelRow.bel {C : Ctx} : ∀ {es : List AV} {b off sz : Nat}, RelRow C es b off sz → belL C.σ.length es = true
  | [], _, _, _, _ => rfl
  | .agg cs :: es, _, _, _, hx => by
    simp only [RelRow] at hx
    simp [belL, AV.bel, RelAt.bel hx.2.1, RelRow.bel hx.2.2]
  | .any :: es, _, _, _, hx => by
    simp only [RelRow] at hx
    obtain ⟨_, ⟨_, _, _, hv⟩, _, hr⟩ := hx
    simp [belL, RelV.bel hv, RelRow.bel hr]
  | .val _ :: es, _, _, _, hx => by
    simp only [RelRow] at hx
    obtain ⟨_, ⟨_, _, _, hv⟩, _, hr⟩ := hx
    simp [belL, RelV.bel hv, RelRow.bel hr]
  | .tup _ :: es, _, _, _, hx => by
    simp only [RelRow] at hx
    obtain ⟨_, ⟨_, _, _, hv⟩, _, hr⟩ := hx
    simp [belL, RelV.bel hv, RelRow.bel hr]
  | .nilsl :: es, _, _, _, hx => by
    simp only [RelRow] at hx
    obtain ⟨_, ⟨_, _, _, hv⟩, _, hr⟩ := hx
    simp [belL, RelV.bel hv, RelRow.bel hr]
  | .sl _ _ :: es, _, _, _, hx => by
    simp only [RelRow] at hx
    obtain ⟨_, ⟨_, _, _, hv⟩, _, hr⟩ := hx
    simp [belL, RelV.bel hv, RelRow.bel hr]
  | .slf _ _ :: es, _, _, _, hx => by
    simp only [RelRow] at hx
    obtain ⟨_, ⟨_, _, _, hv⟩, _, hr⟩ := hx
    simp [belL, RelV.bel hv, RelRow.bel hr]
  | .slo _ _ _ _ :: es, _, _, _, hx => by
    simp only [RelRow] at hx
    obtain ⟨_, ⟨_, _, _, hv⟩, _, hr⟩ := hx
    simp [belL, RelV.bel hv, RelRow.bel hr]
  | .er _ :: es, _, _, _, hx => by
    simp only [RelRow] at hx
    obtain ⟨_, ⟨_, _, _, hv⟩, _, hr⟩ := hx
    simp [belL, RelV.bel hv, RelRow.bel hr]
  | .ref _ _ :: es, _, _, _, hx => by
    simp only [RelRow] at hx
    obtain ⟨_, ⟨_, _, _, hv⟩, _, hr⟩ := hx
    simp [belL, RelV.bel hv, RelRow.bel hr]
  | .osl _ _ _ _ :: es, _, _, _, hx => by
    simp only [RelRow] at hx
    obtain ⟨_, ⟨_, _, _, hv⟩, _, hr⟩ := hx
    simp [belL, RelV.bel hv, RelRow.bel hr]
  | .fn _ _ :: es, _, _, _, hx => by
    simp only [RelRow] at hx
    obtain ⟨_, ⟨_, _, _, hv⟩, _, hr⟩ := hx
    simp [belL, RelV.bel hv, RelRow.bel hr]
  | .mapo _ :: es, _, _, _, hx => by
    simp only [RelRow] at hx
    obtain ⟨_, ⟨_, _, _, hv⟩, _, hr⟩ := hx
    simp [belL, RelV.bel hv, RelRow.bel hr]
  | .yl _ :: es, _, _, _, hx => by
    simp only [RelRow] at hx
    obtain ⟨_, ⟨_, _, _, hv⟩, _, hr⟩ := hx
    simp [belL, RelV.bel hv, RelRow.bel hr]
  | .mapf _ _ :: es, _, _, _, hx => by
    simp only [RelRow] at hx
    obtain ⟨_, ⟨_, _, _, hv⟩, _, hr⟩ := hx
    simp [belL, RelV.bel hv, RelRow.bel hr]
  | .ifc _ _ :: es, _, _, _, hx => by
    simp only [RelRow] at hx
    obtain ⟨_, ⟨_, _, _, hv⟩, _, hr⟩ := hx
    simp [belL, RelV.bel hv, RelRow.bel hr]
end

/-- What lived before stands as it stood, and what came since is forgotten. -/
theorem trunc_rel {C D : Ctx} (hC : RelS C) (hD : RelS D) (he : D.σ.take C.σ.length = C.σ) : RelS (D.trunc C.σ.length) := by
  have hlt := trunc_less D C.σ.length
  have hget : ∀ {k : Nat} {x : AO}, (D.trunc C.σ.length).σ[k]? = some x → C.σ[k]? = some x := by
    intro k x hk
    rw [← he]
    exact hk
  refine ⟨fun k cs hk => ?_, fun k ks vs hk => ?_, fun k m sz hk hm => hD.cap k m sz (trunc_get hk).2 hm, fun k hk => hD.dfr k (trunc_get hk).2, fun k r e hk => ⟨(hD.loop k r e (trunc_get hk).2).1, RelL.keep hlt (RelL.bel (hC.loop k r e (hget hk)).2) (hD.loop k r e (trunc_get hk).2).2⟩, fun a b ha hb e => ?_⟩
  · obtain ⟨arr, T, h1, h2, h3, h4⟩ := hD.cells k cs (trunc_get hk).2
    obtain ⟨arr', T', g1, g2, g3, g4⟩ := hC.cells k cs (hget hk)
    exact ⟨arr, T, h1, h2, RelL.keep hlt (RelL.bel g3) h3, h4⟩
  · obtain ⟨es, clock, h1, h2, h3⟩ := hD.map k ks vs (trunc_get hk).2
    obtain ⟨es', clock', g1, g2, g3⟩ := hC.map k ks vs (hget hk)
    exact ⟨es, clock, h1, h2, RelL.keep hlt (RelL.bel g3) h3⟩
  · obtain ⟨la, ha⟩ := Option.isSome_iff_exists.1 ha
    obtain ⟨lb, hb⟩ := Option.isSome_iff_exists.1 hb
    exact hD.inj a b (by simp [(trunc_lim ha).2]) (by simp [(trunc_lim hb).2]) e

/-- A function that turns nothing of what lived: what it made is frozen in what it hands back, the rest forgotten. -/
theorem ACalls.pure {f : FuncId} {args : List AV} {σ : Sto} {R : AV → Sto → Prop} {R' : AV → Prop} (h : ACalls P Γ f args σ R) (hr : ∀ v σ', R v σ' → σ'.take σ.length = σ ∧ ∃ v', Frz σ.length σ' v v' ∧ R' v') :
    ACalls P Γ f args σ (fun v σ' => σ' = σ ∧ R' v) := by
  intro C xs h1 h2 h3 h4
  refine (h C xs h1 h2 h3 h4).mono ?_
  rintro e w' ⟨D, x, v, rfl, rfl, k2, k3, k4, k5⟩
  obtain ⟨l1, v', l2, l3⟩ := hr _ _ k5
  subst h1
  exact ⟨D.trunc C.σ.length, x, v', rfl, rfl, trunc_ext k2 rfl, trunc_rel h2 k3 l1, Frz.rel k3 l2 k4, l1, l3⟩
end Go.Proofs.Ev
