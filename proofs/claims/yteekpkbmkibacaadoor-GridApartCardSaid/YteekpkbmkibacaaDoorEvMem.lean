import Derived.Test.YteekpkbmkibacaaDoorEvBase
/-! What is done to memory, told of identities. -/
namespace Go.Proofs.Ev
set_option linter.unusedSimpArgs false
set_option linter.unusedVariables false
open Go

theorem heap_alloc_lt (w : World) (o : Obj) {b : Nat} (h : b < w.heap.size) : (w.alloc o).heap[b]? = w.heap[b]? := by
  show (w.heap.push o)[b]? = _
  simp [Array.getElem?_push, Nat.ne_of_lt h]
theorem heap_alloc_at (w : World) (o : Obj) : (w.alloc o).heap[w.heap.size]? = some o := by
  show (w.heap.push o)[w.heap.size]? = some o
  simp
theorem alloc_size (w : World) (o : Obj) : (w.alloc o).heap.size = w.heap.size + 1 := by
  show (w.heap.push o).size = _
  simp
theorem lt_of_heap {w : World} {b : Nat} {o : Obj} (h : w.heap[b]? = some o) : b < w.heap.size := (Array.getElem?_eq_some_iff.1 h).1
theorem lim_get {C : Ctx} {o l : Nat} (h : C.lim o = some l) : ∃ a, C.σ[o]? = some a ∧ a.lim = some l := Option.bind_eq_some_iff.1 h
theorem lim_of {C : Ctx} {o : Nat} {a : AO} (h : C.σ[o]? = some a) : C.lim o = a.lim := by simp [Ctx.lim, h]

/-- What stands behind one identity stands in the world. -/
def Good (D : Ctx) (o : Nat) : AO → Prop
  | .dead => True
  | .cells cs => ∃ (arr : Array Value) (T : TypeId), D.w.heap[D.φ o]? = some (.cells arr T (0, 0)) ∧ cs.length ≤ arr.size ∧ RelL D cs (arr.toList.take cs.length) ∧ ∀ v ∈ arr.toList, v.oneCell' = true
  | .map ks vs => ∃ es clock, D.w.heap[D.φ o]? = some (.map es clock) ∧ Keyed es clock ks ∧ RelL D vs (es.toList.map (·.val))
  | .cap n sz => 0 < n → ∃ (arr : Array Value) (T : TypeId), D.w.heap[D.φ o]? = some (.cells arr T (0, 0)) ∧ n * sz ≤ arr.size ∧ ∀ v ∈ arr.toList, v.oneCell' = true
  | .dfr => ∃ x, D.w.heap[D.φ o]? = some (.deferred x)
  | .loop r env => D.w.heap[D.φ o]? = some (.loop r) ∧ RelL D env r.tmps.toList
theorem RelS.good {C : Ctx} (h : RelS C) {o : Nat} {a : AO} (ho : C.σ[o]? = some a) : Good C o a := by
  cases a with
  | dead => trivial
  | cells cs => exact h.cells o cs ho
  | map ks vs => exact h.map o ks vs ho
  | cap n sz => exact h.cap o n sz ho
  | dfr => exact h.dfr o ho
  | loop r env => exact h.loop o r env ho
theorem RelS.lim_lt {C : Ctx} (h : RelS C) {o l : Nat} (ho : C.lim o = some l) : C.φ o < C.w.heap.size := by
  obtain ⟨a, h1, h2⟩ := lim_get ho
  have hg := h.good h1
  cases a with
  | dead => cases h2
  | cells cs => obtain ⟨_, _, hb, _⟩ := hg; exact lt_of_heap hb
  | map ks vs => obtain ⟨_, _, hb, _⟩ := hg; exact lt_of_heap hb
  | cap n sz =>
    have hn : 0 < n := by
      simp only [AO.lim] at h2
      split at h2
      · cases h2
      · omega
    obtain ⟨_, _, hb, _⟩ := hg hn
    exact lt_of_heap hb
  | dfr => obtain ⟨_, hb⟩ := hg; exact lt_of_heap hb
  | loop r env => exact lt_of_heap hg.1
theorem Good.mono {C D : Ctx} (hE : Ext C D) {o : Nat} {a : AO} (hφ : D.φ o = C.φ o) (hb : a.lim.isSome = true → D.w.heap[C.φ o]? = C.w.heap[C.φ o]?) (h : Good C o a) : Good D o a := by
  cases a with
  | dead => trivial
  | cells cs =>
    obtain ⟨arr, T, h1, h2, h3, h4⟩ := h
    exact ⟨arr, T, by rw [hφ, hb rfl]; exact h1, h2, RelL.mono hE h3, h4⟩
  | map ks vs =>
    obtain ⟨es, clock, h1, h2, h3⟩ := h
    exact ⟨es, clock, by rw [hφ, hb rfl]; exact h1, h2, RelL.mono hE h3⟩
  | cap n sz =>
    intro hn
    obtain ⟨arr, T, h1, h2, h3⟩ := h hn
    exact ⟨arr, T, by rw [hφ, hb (by simp [AO.lim]; omega)]; exact h1, h2, h3⟩
  | dfr =>
    obtain ⟨x, h1⟩ := h
    exact ⟨x, by rw [hφ, hb rfl]; exact h1⟩
  | loop r env => exact ⟨by rw [hφ, hb rfl]; exact h.1, RelL.mono hE h.2⟩
theorem RelS.of {D : Ctx} (hg : ∀ o a, D.σ[o]? = some a → Good D o a) (inj : ∀ o o', (D.lim o).isSome = true → (D.lim o').isSome = true → D.φ o = D.φ o' → o = o') : RelS D :=
  ⟨fun o _ ho => hg o _ ho, fun o _ _ ho => hg o _ ho, fun o _ _ ho => hg o _ ho, fun o ho => hg o _ ho, fun o _ _ ho => hg o _ ho, inj⟩

/-! A draw. -/
def Ctx.drew (C : Ctx) : Ctx := { C with w := C.w.drew }
theorem drew_ext (C : Ctx) : Ext C C.drew := ⟨Nat.le_refl _, fun _ a h1 h2 => ⟨rfl, a, h1, h2⟩, fun _ n _ h => ⟨n, h, Nat.le_refl _, fun _ => rfl⟩, fun _ _ h => ⟨rfl, h⟩, fun _ h => ⟨rfl, h⟩, fun _ arr _ _ h => ⟨arr, h, rfl⟩, fun _ h => ⟨h, rfl⟩, fun _ h => .inl h, rfl, rfl, rfl⟩
theorem drew_rel {C : Ctx} (h : RelS C) : RelS C.drew := RelS.of (fun _ _ ho => (h.good ho).mono (drew_ext C) rfl (fun _ => rfl)) h.inj

/-! New memory that is frozen at once. -/
def Ctx.lay (C : Ctx) (o : Obj) : Ctx := { C with w := C.w.alloc o }
theorem lay_ext {C : Ctx} (hS : RelS C) (o : Obj) : Ext C (C.lay o) := {
  dfr := fun k hk => ⟨hk, heap_alloc_lt _ _ (hS.lim_lt ((lim_of hk).trans rfl))⟩
  fresh := fun _ h => .inl h
  size := by show _ ≤ (C.w.alloc o).heap.size; rw [alloc_size]; omega
  ids := fun _ a h1 h2 => ⟨rfl, a, h1, h2⟩
  caps := fun _ n _ h => ⟨n, h, Nat.le_refl _, fun _ => rfl⟩
  fixC := fun b off h => ⟨cell_of_heap (heap_alloc_lt _ _ h.1), by show _ < (C.w.alloc o).heap.size; rw [alloc_size]; have := h.1; omega, h.2⟩
  fixB := fun b h => ⟨heap_alloc_lt _ _ h.1, by show _ < (C.w.alloc o).heap.size; rw [alloc_size]; have := h.1; omega, h.2⟩
  shape := fun b arr T fr h => ⟨arr, (heap_alloc_lt _ _ (lt_of_heap h)).trans h, rfl⟩
  os := rfl
  tape := rfl
  output := rfl }
theorem lay_rel {C : Ctx} (h : RelS C) (o : Obj) : RelS (C.lay o) :=
  RelS.of (fun k a ho => (h.good ho).mono (lay_ext h o) rfl (fun hl => by
    obtain ⟨l, hl⟩ := Option.isSome_iff_exists.1 hl
    exact heap_alloc_lt _ _ (h.lim_lt ((lim_of ho).trans hl)))) h.inj
theorem lay_fix {C : Ctx} (h : RelS C) (o : Obj) : (C.lay o).FixB C.w.heap.size :=
  ⟨by show _ < (C.w.alloc o).heap.size; rw [alloc_size]; omega, fun k l hk e => by
    have := h.lim_lt (C := C) hk
    have e : C.φ k = C.w.heap.size := e
    omega⟩

/-! A new identity. -/
def Ctx.new (C : Ctx) (ao : AO) (o : Obj) : Ctx := { φ := fun k => if k = C.σ.length then C.w.heap.size else C.φ k, σ := C.σ ++ [ao], w := C.w.alloc o }
theorem app1_get {l : List AO} {ao x : AO} {k : Nat} (hx : (l ++ [ao])[k]? = some x) : (k < l.length ∧ l[k]? = some x) ∨ (k = l.length ∧ x = ao) := by
  rw [List.getElem?_append] at hx
  split at hx
  · exact .inl ⟨by assumption, hx⟩
  · have : k - l.length = 0 := by
      by_cases e : k - l.length = 0
      · exact e
      · rw [List.getElem?_eq_none (by simp; omega)] at hx
        simp at hx
    rw [this] at hx
    simp at hx
    exact .inr ⟨by omega, hx.symm⟩
theorem app1_old {l : List AO} {ao x : AO} {k : Nat} (hx : l[k]? = some x) : (l ++ [ao])[k]? = some x := by
  rw [List.getElem?_append_left (List.getElem?_eq_some_iff.1 hx).1]
  exact hx
theorem get_lt {l : List AO} {x : AO} {k : Nat} (hx : l[k]? = some x) : k < l.length := (List.getElem?_eq_some_iff.1 hx).1
theorem new_φ_old {C : Ctx} {ao : AO} {ob : Obj} {k : Nat} (h : k < C.σ.length) : (C.new ao ob).φ k = C.φ k := by simp [Ctx.new, Nat.ne_of_lt h]
theorem new_φ_at {C : Ctx} {ao : AO} {ob : Obj} : (C.new ao ob).φ C.σ.length = C.w.heap.size := by simp [Ctx.new]
theorem new_size (C : Ctx) (ao : AO) (ob : Obj) : (C.new ao ob).w.heap.size = C.w.heap.size + 1 := alloc_size _ _
theorem new_lim {C : Ctx} {ao : AO} {ob : Obj} {k l : Nat} (h : (C.new ao ob).lim k = some l) : (k < C.σ.length ∧ C.lim k = some l) ∨ k = C.σ.length := by
  obtain ⟨a, h1, h2⟩ := lim_get h
  rcases app1_get h1 with ⟨k1, k2⟩ | ⟨k1, _⟩
  · exact .inl ⟨k1, (lim_of k2).trans h2⟩
  · exact .inr k1
theorem new_ext {C : Ctx} (hS : RelS C) (ao : AO) (ob : Obj) : Ext C (C.new ao ob) := {
  dfr := fun k hk => ⟨app1_old hk, by rw [new_φ_old (get_lt hk)]; exact heap_alloc_lt _ _ (hS.lim_lt ((lim_of hk).trans rfl))⟩
  fresh := fun k hk => by
    rcases app1_get hk with ⟨_, h2⟩ | ⟨rfl, _⟩
    · exact .inl h2
    · exact .inr (by rw [new_φ_at]; exact Nat.le_refl _)
  size := by rw [new_size]; omega
  ids := fun o a h1 h2 => ⟨new_φ_old (get_lt h1), a, app1_old h1, h2⟩
  caps := fun o n sz h => ⟨n, app1_old h, Nat.le_refl _, fun _ => new_φ_old (get_lt h)⟩
  fixC := fun b off hb => by
    refine ⟨cell_of_heap (heap_alloc_lt _ _ hb.1), by rw [new_size]; have := hb.1; omega, fun o l ho e => ?_⟩
    rcases new_lim ho with ⟨h1, h2⟩ | rfl
    · rw [new_φ_old h1] at e
      exact hb.2 o l h2 e
    · rw [new_φ_at] at e
      have := hb.1
      omega
  fixB := fun b hb => by
    refine ⟨heap_alloc_lt _ _ hb.1, by rw [new_size]; have := hb.1; omega, fun o l ho e => ?_⟩
    rcases new_lim ho with ⟨h1, h2⟩ | rfl
    · rw [new_φ_old h1] at e
      exact hb.2 o l h2 e
    · rw [new_φ_at] at e
      have := hb.1
      omega
  shape := fun b arr T fr h => ⟨arr, (heap_alloc_lt _ _ (lt_of_heap h)).trans h, rfl⟩
  os := rfl
  tape := rfl
  output := rfl }
theorem new_rel {C : Ctx} (h : RelS C) {ao : AO} {ob : Obj} (hg : Good (C.new ao ob) C.σ.length ao) : RelS (C.new ao ob) := by
  refine RelS.of (fun k a ho => ?_) (fun a b ha hb e => ?_)
  · rcases app1_get ho with ⟨k1, k2⟩ | ⟨rfl, rfl⟩
    · exact (h.good k2).mono (new_ext h _ _) (new_φ_old k1) (fun hl => by
        obtain ⟨l, hl⟩ := Option.isSome_iff_exists.1 hl
        exact heap_alloc_lt _ _ (h.lim_lt ((lim_of k2).trans hl)))
    · exact hg
  · obtain ⟨la, ha⟩ := Option.isSome_iff_exists.1 ha
    obtain ⟨lb, hb⟩ := Option.isSome_iff_exists.1 hb
    rcases new_lim ha with ⟨a1, a2⟩ | rfl <;> rcases new_lim hb with ⟨b1, b2⟩ | rfl
    · rw [new_φ_old a1, new_φ_old b1] at e
      exact h.inj a b (by simp [a2]) (by simp [b2]) e
    · rw [new_φ_old a1, new_φ_at] at e
      have := h.lim_lt a2
      omega
    · rw [new_φ_old b1, new_φ_at] at e
      have := h.lim_lt b2
      omega
    · rfl
theorem new_cells {C : Ctx} (h : RelS C) {cs : List AV} {arr : Array Value} (T : TypeId) (hl : RelL C cs (arr.toList.take cs.length)) (hn : cs.length ≤ arr.size) (h1 : ∀ v ∈ arr.toList, v.oneCell' = true) :
    RelS (C.new (.cells cs) (.cells arr T)) :=
  new_rel h ⟨arr, T, by rw [new_φ_at]; exact heap_alloc_at _ _, hn, RelL.mono (new_ext h _ _) hl, h1⟩
theorem new_map {C : Ctx} (h : RelS C) {ks : List Value} {vs : List AV} {es : Array MapEntry} (clock : Nat) (hk : Keyed es clock ks) (hl : RelL C vs (es.toList.map (·.val))) : RelS (C.new (.map ks vs) (.map es clock)) :=
  new_rel h ⟨es, clock, by rw [new_φ_at]; exact heap_alloc_at _ _, hk, RelL.mono (new_ext h _ _) hl⟩

/-! The right to append, of nothing yet. -/
def Ctx.ghost (C : Ctx) (ao : AO) : Ctx := { C with σ := C.σ ++ [ao] }
theorem ghost_lim {C : Ctx} {ao : AO} (h0 : ao.lim = none) {k l : Nat} (h : (C.ghost ao).lim k = some l) : C.lim k = some l := by
  obtain ⟨a, h1, h2⟩ := lim_get h
  rcases app1_get h1 with ⟨_, k2⟩ | ⟨_, rfl⟩
  · exact (lim_of k2).trans h2
  · rw [h0] at h2
    cases h2
theorem ghost_ext (C : Ctx) {ao : AO} (h0 : ao.lim = none) : Ext C (C.ghost ao) :=
  ⟨Nat.le_refl _, fun _ a h1 h2 => ⟨rfl, a, app1_old h1, h2⟩, fun _ n _ h => ⟨n, app1_old h, Nat.le_refl _, fun _ => rfl⟩, fun _ _ h => ⟨rfl, h.1, fun o l ho => h.2 o l (ghost_lim h0 ho)⟩, fun _ h => ⟨rfl, h.1, fun o l ho => h.2 o l (ghost_lim h0 ho)⟩, fun _ arr _ _ h => ⟨arr, h, rfl⟩, fun _ h => ⟨app1_old h, rfl⟩, fun o h => (app1_get h).elim (fun h2 => .inl h2.2) (fun h2 => by rw [← h2.2] at h0; cases h0), rfl, rfl, rfl⟩
theorem ghost_rel {C : Ctx} (h : RelS C) {ao : AO} (h0 : ao.lim = none) : RelS (C.ghost ao) := by
  refine RelS.of (fun k a ho => ?_) (fun a b ha hb e => ?_)
  · rcases app1_get ho with ⟨_, k2⟩ | ⟨rfl, rfl⟩
    · exact (h.good k2).mono (ghost_ext C h0) rfl (fun _ => rfl)
    · cases a with
      | dead => trivial
      | cap n sz =>
        intro hn
        simp only [AO.lim] at h0
        split at h0
        · omega
        · cases h0
      | _ => cases h0
  · obtain ⟨la, ha⟩ := Option.isSome_iff_exists.1 ha
    obtain ⟨lb, hb⟩ := Option.isSome_iff_exists.1 hb
    exact h.inj a b (by simp [ghost_lim h0 ha]) (by simp [ghost_lim h0 hb]) e

/-! One block is another one; one identity's thing is another one. -/
def setBlk (w : World) (b : Nat) (o : Obj) : World := { w with heap := w.heap.setIfInBounds b o }
theorem setBlk_same (w : World) (b : Nat) (o : Obj) (h : b < w.heap.size) : (setBlk w b o).heap[b]? = some o := by simp [setBlk, h]
theorem setBlk_other (w : World) (b k : Nat) (o : Obj) (h : k ≠ b) : (setBlk w b o).heap[k]? = w.heap[k]? := by simp [setBlk, Ne.symm h]
theorem setBlk_size (w : World) (b : Nat) (o : Obj) : (setBlk w b o).heap.size = w.heap.size := by simp [setBlk]
def sameShape : Obj → Obj → Prop
  | .cells a T f, .cells b U g => a.size = b.size ∧ T = U ∧ f = g
  | .map .., .map .. => True
  | .loop .., .loop .. => True
  | .deferred .., .deferred .. => True
  | _, _ => False
def Ctx.put (C : Ctx) (o : Nat) (ao : AO) (ob : Obj) : Ctx := { C with σ := C.σ.set o ao, w := setBlk C.w (C.φ o) ob }
theorem put_get {C : Ctx} {o k : Nat} {ao x : AO} {ob : Obj} (hx : (C.put o ao ob).σ[k]? = some x) : (k = o ∧ x = ao ∧ k < C.σ.length) ∨ (k ≠ o ∧ C.σ[k]? = some x) := by
  simp only [Ctx.put, List.getElem?_set] at hx
  split at hx
  · split at hx
    · rename_i h1 h2
      exact .inl ⟨h1.symm, (Option.some.inj hx).symm, by omega⟩
    · simp at hx
  · rename_i h
    exact .inr ⟨fun e => h e.symm, hx⟩
theorem put_other {C : Ctx} {o k : Nat} {ao x : AO} {ob : Obj} (h : k ≠ o) (hx : C.σ[k]? = some x) : (C.put o ao ob).σ[k]? = some x := by
  simp only [Ctx.put, List.getElem?_set]
  rw [if_neg (fun e => h e.symm)]
  exact hx
theorem put_at {C : Ctx} {o : Nat} {ao : AO} {ob : Obj} (h : o < C.σ.length) : (C.put o ao ob).σ[o]? = some ao := by simp [Ctx.put, h]
/-- Cells from l on, l their limit before, are written; the limit goes up, if at all. -/
theorem put_ext {C : Ctx} (hS : RelS C) {o l : Nat} {old ao : AO} {ob ob' : Obj} (ho : C.σ[o]? = some old) (hl : old.lim = some l) (hb : C.w.heap[C.φ o]? = some ob) (hs : sameShape ob ob')
    (hkind : (old.isCap = false ∧ ao.isCap = false) ∨ ∃ n n' sz, old = .cap n sz ∧ ao = .cap n' sz ∧ n ≤ n')
    (hl' : ∃ l', ao.lim = some l' ∧ l ≤ l') (hnd : old ≠ .dfr ∧ ao ≠ .dfr) (hc : ∀ off, off < l → World.cell? (setBlk C.w (C.φ o) ob') ⟨C.φ o, off, none⟩ = C.w.cell? ⟨C.φ o, off, none⟩) : Ext C (C.put o ao ob') := {
  dfr := fun k hk => by
    have hne : k ≠ o := fun e => by
      subst e
      rw [ho] at hk
      exact hnd.1 (Option.some.inj hk)
    exact ⟨put_other hne hk, setBlk_other _ _ _ _ fun e => hne (hS.inj k o (by rw [lim_of hk]; rfl) (by rw [lim_of ho, hl]; rfl) e)⟩
  fresh := fun k hk => by
    rcases put_get hk with ⟨_, e, _⟩ | ⟨_, h⟩
    · exact absurd e.symm hnd.2
    · exact .inl h
  size := by simp [Ctx.put, setBlk_size]
  ids := fun k a h1 h2 => by
    by_cases e : k = o
    · subst e
      rw [h1] at ho
      cases ho
      rcases hkind with ⟨_, h4⟩ | ⟨n, n', sz, rfl, _, _⟩
      · exact ⟨rfl, ao, put_at (get_lt h1), h4⟩
      · cases h2
    · exact ⟨rfl, a, put_other e h1, h2⟩
  caps := fun k n sz h1 => by
    by_cases e : k = o
    · subst e
      rw [h1] at ho
      cases ho
      rcases hkind with ⟨h3, _⟩ | ⟨n1, n', sz', e1, rfl, hle⟩
      · cases h3
      · cases e1
        exact ⟨n', put_at (get_lt h1), hle, fun _ => rfl⟩
    · exact ⟨n, put_other e h1, Nat.le_refl _, fun _ => rfl⟩
  fixC := fun b off h => by
    have hlim := (lim_of ho).trans hl
    refine ⟨?_, by simp only [Ctx.put, setBlk_size]; exact h.1, fun k l1 hk e => ?_⟩
    · by_cases e : b = C.φ o
      · subst e
        exact hc off (h.2 o l hlim rfl)
      · exact cell_of_heap (setBlk_other _ _ _ _ e)
    · obtain ⟨a, h1, h2⟩ := lim_get hk
      rcases put_get h1 with ⟨rfl, rfl, _⟩ | ⟨_, h3⟩
      · obtain ⟨l', h4, h5⟩ := hl'
        rw [h4] at h2
        cases h2
        have := h.2 k l hlim e
        omega
      · exact h.2 k l1 ((lim_of h3).trans h2) e
  fixB := fun b h => by
    have hlim := (lim_of ho).trans hl
    refine ⟨setBlk_other _ _ _ _ (fun e => h.2 o l hlim e.symm), by simp only [Ctx.put, setBlk_size]; exact h.1, fun k l1 hk e => ?_⟩
    obtain ⟨a, h1, h2⟩ := lim_get hk
    rcases put_get h1 with ⟨rfl, rfl, _⟩ | ⟨_, h3⟩
    · exact h.2 k l hlim e
    · exact h.2 k l1 ((lim_of h3).trans h2) e
  shape := fun b arr T fr h => by
    by_cases e : b = C.φ o
    · subst e
      rw [hb] at h
      cases h
      cases ob' with
      | cells arr' U g =>
        obtain ⟨h1, rfl, rfl⟩ := hs
        exact ⟨arr', setBlk_same _ _ _ (lt_of_heap hb), h1.symm⟩
      | _ => exact hs.elim
    · exact ⟨arr, (setBlk_other _ _ _ _ e).trans h, rfl⟩
  os := rfl
  tape := rfl
  output := rfl }
theorem put_rel {C : Ctx} (h : RelS C) {o : Nat} {ao : AO} {ob : Obj} (hl : (C.lim o).isSome = true) (hE : Ext C (C.put o ao ob)) (hg : Good (C.put o ao ob) o ao) : RelS (C.put o ao ob) := by
  have hlim : ∀ k, ((C.put o ao ob).lim k).isSome = true → (C.lim k).isSome = true := by
    intro k hk
    obtain ⟨l, hk⟩ := Option.isSome_iff_exists.1 hk
    obtain ⟨a, h1, h2⟩ := lim_get hk
    rcases put_get h1 with ⟨rfl, _, _⟩ | ⟨_, h3⟩
    · exact hl
    · simp [(lim_of h3).trans h2]
  refine RelS.of (fun k a ho => ?_) (fun a b ha hb e => h.inj a b (hlim a ha) (hlim b hb) e)
  rcases put_get ho with ⟨rfl, rfl, _⟩ | ⟨hne, h3⟩
  · exact hg
  · refine (h.good h3).mono hE rfl (fun hs => setBlk_other _ _ _ _ (fun e => hne (h.inj k o ?_ hl e)))
    rw [lim_of h3]
    exact hs
theorem put_cells {C : Ctx} (h : RelS C) {o : Nat} {old cs : List AV} {arr : Array Value} {T : TypeId} (ho : C.σ[o]? = some (.cells old)) (hb : ∃ old : Array Value, C.w.heap[C.φ o]? = some (.cells old T (0, 0)) ∧ old.size = arr.size)
    (hl : RelL C cs (arr.toList.take cs.length)) (hn : cs.length ≤ arr.size) (h1 : ∀ v ∈ arr.toList, v.oneCell' = true) : Ext C (C.put o (.cells cs) (.cells arr T (0, 0))) ∧ RelS (C.put o (.cells cs) (.cells arr T (0, 0))) := by
  obtain ⟨oa, hb, hsz⟩ := hb
  have hE : Ext C (C.put o (.cells cs) (.cells arr T (0, 0))) := put_ext h ho rfl hb ⟨hsz, rfl, rfl⟩ (.inl ⟨rfl, rfl⟩) ⟨0, rfl, Nat.le_refl _⟩ ⟨by simp, by simp⟩ (fun off hoff => by omega)
  exact ⟨hE, put_rel h (by rw [lim_of ho]; rfl) hE ⟨arr, T, setBlk_same _ _ _ (lt_of_heap hb), hn, RelL.mono hE hl, h1⟩⟩
theorem put_map {C : Ctx} (h : RelS C) {o : Nat} {ks0 ks : List Value} {vs0 vs : List AV} {es : Array MapEntry} {clock : Nat} (ho : C.σ[o]? = some (.map ks0 vs0)) (hb : ∃ es' c', C.w.heap[C.φ o]? = some (.map es' c'))
    (hk : Keyed es clock ks) (hl : RelL C vs (es.toList.map (·.val))) : Ext C (C.put o (.map ks vs) (.map es clock)) ∧ RelS (C.put o (.map ks vs) (.map es clock)) := by
  obtain ⟨es', c', hb⟩ := hb
  have hE : Ext C (C.put o (.map ks vs) (.map es clock)) := put_ext h ho rfl hb trivial (.inl ⟨rfl, rfl⟩) ⟨0, rfl, Nat.le_refl _⟩ ⟨by simp, by simp⟩ (fun off hoff => by omega)
  exact ⟨hE, put_rel h (by rw [lim_of ho]; rfl) hE ⟨es, clock, setBlk_same _ _ _ (lt_of_heap hb), hk, RelL.mono hE hl⟩⟩

/-! A row with the right to append goes on in a new block. -/
def Ctx.regrow (C : Ctx) (k : Nat) (ao : AO) (ob : Obj) : Ctx := { φ := fun j => if j = k then C.w.heap.size else C.φ j, σ := C.σ.set k ao, w := C.w.alloc ob }
theorem regrow_get {C : Ctx} {o k : Nat} {ao x : AO} {ob : Obj} (hx : (C.regrow o ao ob).σ[k]? = some x) : (k = o ∧ x = ao) ∨ (k ≠ o ∧ C.σ[k]? = some x) := by
  simp only [Ctx.regrow, List.getElem?_set] at hx
  split at hx
  · split at hx
    · rename_i h1 h2
      exact .inl ⟨h1.symm, (Option.some.inj hx).symm⟩
    · simp at hx
  · rename_i h
    exact .inr ⟨fun e => h e.symm, hx⟩
theorem regrow_other {C : Ctx} {o k : Nat} {ao x : AO} {ob : Obj} (h : k ≠ o) (hx : C.σ[k]? = some x) : (C.regrow o ao ob).σ[k]? = some x := by
  simp only [Ctx.regrow, List.getElem?_set]
  rw [if_neg (fun e => h e.symm)]
  exact hx
theorem regrow_lim {C : Ctx} {o k l : Nat} {ao : AO} {ob : Obj} (h : (C.regrow o ao ob).lim k = some l) : k = o ∨ (k ≠ o ∧ C.lim k = some l) := by
  obtain ⟨a, h1, h2⟩ := lim_get h
  rcases regrow_get h1 with ⟨h3, _⟩ | ⟨h3, h4⟩
  · exact .inl h3
  · exact .inr ⟨h3, (lim_of h4).trans h2⟩
theorem regrow_φ {C : Ctx} {o k : Nat} {ao : AO} {ob : Obj} (h : k ≠ o) : (C.regrow o ao ob).φ k = C.φ k := by simp [Ctx.regrow, h]
theorem regrow_at {C : Ctx} {o : Nat} {ao : AO} {ob : Obj} : (C.regrow o ao ob).φ o = C.w.heap.size := by simp [Ctx.regrow]
theorem regrow_ext {C : Ctx} (hS : RelS C) {k n n' sz : Nat} (ob : Obj) (hk : C.σ[k]? = some (.cap n sz)) (hn : n < n') : Ext C (C.regrow k (.cap n' sz) ob) := {
  dfr := fun j hj => by
    have hne : j ≠ k := fun e => by
      subst e
      rw [hk] at hj
      cases hj
    exact ⟨regrow_other hne hj, by rw [regrow_φ hne]; exact heap_alloc_lt _ _ (hS.lim_lt ((lim_of hj).trans rfl))⟩
  fresh := fun j hj => by
    rcases regrow_get hj with ⟨_, e⟩ | ⟨_, h⟩
    · cases e
    · exact .inl h
  size := by show _ ≤ (C.w.alloc ob).heap.size; rw [alloc_size]; omega
  ids := fun j a h1 h2 => by
    have hne : j ≠ k := fun e => by
      subst e
      rw [hk] at h1
      cases h1
      cases h2
    exact ⟨regrow_φ hne, a, regrow_other hne h1, h2⟩
  caps := fun j m s h1 => by
    by_cases e : j = k
    · subst e
      rw [hk] at h1
      cases h1
      exact ⟨n', by simp [Ctx.regrow, get_lt hk], by omega, fun e => by omega⟩
    · exact ⟨m, regrow_other e h1, Nat.le_refl _, fun _ => regrow_φ e⟩
  fixC := fun b off hb => by
    refine ⟨cell_of_heap (heap_alloc_lt _ _ hb.1), by show _ < (C.w.alloc ob).heap.size; rw [alloc_size]; have := hb.1; omega, fun o l ho e => ?_⟩
    rcases regrow_lim ho with rfl | ⟨h1, h2⟩
    · rw [regrow_at] at e
      have := hb.1
      omega
    · rw [regrow_φ h1] at e
      exact hb.2 o l h2 e
  fixB := fun b hb => by
    refine ⟨heap_alloc_lt _ _ hb.1, by show _ < (C.w.alloc ob).heap.size; rw [alloc_size]; have := hb.1; omega, fun o l ho e => ?_⟩
    rcases regrow_lim ho with rfl | ⟨h1, h2⟩
    · rw [regrow_at] at e
      have := hb.1
      omega
    · rw [regrow_φ h1] at e
      exact hb.2 o l h2 e
  shape := fun b arr T fr h => ⟨arr, (heap_alloc_lt _ _ (lt_of_heap h)).trans h, rfl⟩
  os := rfl
  tape := rfl
  output := rfl }
theorem regrow_rel {C : Ctx} (h : RelS C) {k n n' sz : Nat} {ob : Obj} (hk : C.σ[k]? = some (.cap n sz)) (hn : n < n') (hg : Good (C.regrow k (.cap n' sz) ob) k (.cap n' sz)) : RelS (C.regrow k (.cap n' sz) ob) := by
  refine RelS.of (fun j a ho => ?_) (fun a b ha hb e => ?_)
  · rcases regrow_get ho with ⟨rfl, rfl⟩ | ⟨h1, h2⟩
    · exact hg
    · exact (h.good h2).mono (regrow_ext h ob hk hn) (regrow_φ h1) (fun hl => by
        obtain ⟨l, hl⟩ := Option.isSome_iff_exists.1 hl
        exact heap_alloc_lt _ _ (h.lim_lt ((lim_of h2).trans hl)))
  · obtain ⟨la, ha⟩ := Option.isSome_iff_exists.1 ha
    obtain ⟨lb, hb⟩ := Option.isSome_iff_exists.1 hb
    rcases regrow_lim ha with rfl | ⟨a1, a2⟩ <;> rcases regrow_lim hb with rfl | ⟨b1, b2⟩
    · rfl
    · rw [regrow_at, regrow_φ b1] at e
      have := h.lim_lt b2
      omega
    · rw [regrow_at, regrow_φ a1] at e
      have := h.lim_lt a2
      omega
    · rw [regrow_φ a1, regrow_φ b1] at e
      exact h.inj a b (by simp [a2]) (by simp [b2]) e

/-! A live row goes on under a new identity, where it lies; or is given up. -/
def Ctx.kill (C : Ctx) (o : Nat) : Ctx := { C with σ := C.σ.set o .dead }
theorem kill_get {C : Ctx} {o k : Nat} {x : AO} (hx : (C.kill o).σ[k]? = some x) : (k = o ∧ x = .dead) ∨ (k ≠ o ∧ C.σ[k]? = some x) := by
  simp only [Ctx.kill, List.getElem?_set] at hx
  split at hx
  · split at hx
    · rename_i h1 h2
      exact .inl ⟨h1.symm, (Option.some.inj hx).symm⟩
    · simp at hx
  · rename_i h
    exact .inr ⟨fun e => h e.symm, hx⟩
theorem kill_lim {C : Ctx} {o k l : Nat} (h : (C.kill o).lim k = some l) : k ≠ o ∧ C.lim k = some l := by
  obtain ⟨a, h1, h2⟩ := lim_get h
  rcases kill_get h1 with ⟨_, rfl⟩ | ⟨h3, h4⟩
  · cases h2
  · exact ⟨h3, (lim_of h4).trans h2⟩
theorem kill_ext {C : Ctx} {o : Nat} {a : AO} (ho : C.σ[o]? = some a) (hc : a.isCap = false) (hd : a ≠ .dfr) : Ext C (C.kill o) := by
  have hget : ∀ k x, C.σ[k]? = some x → k ≠ o → (C.kill o).σ[k]? = some x := fun k x hx hne => by
    simp only [Ctx.kill, List.getElem?_set]
    rw [if_neg (fun e => hne e.symm)]
    exact hx
  refine ⟨Nat.le_refl _, fun k x h1 h2 => ⟨rfl, ?_⟩, fun k n sz h1 => ⟨n, hget _ _ h1 (fun e => ?_), Nat.le_refl _, fun _ => rfl⟩, fun _ _ h => ⟨rfl, h.1, fun k l hk => h.2 k l (kill_lim hk).2⟩, fun _ h => ⟨rfl, h.1, fun k l hk => h.2 k l (kill_lim hk).2⟩, fun _ arr _ _ h => ⟨arr, h, rfl⟩, fun k hk => ⟨hget _ _ hk fun e => ?_, rfl⟩, fun k hk => ?_, rfl, rfl, rfl⟩
  · by_cases e : k = o
    · subst e
      exact ⟨.dead, by simp [Ctx.kill, get_lt h1], rfl⟩
    · exact ⟨x, hget _ _ h1 e, h2⟩
  · subst e
    rw [ho] at h1
    cases h1
    cases hc
  · subst e
    rw [ho] at hk
    exact hd (Option.some.inj hk)
  · rcases kill_get hk with ⟨_, e⟩ | ⟨_, h⟩
    · cases e
    · exact .inl h
theorem kill_rel {C : Ctx} (h : RelS C) {o : Nat} {a : AO} (ho : C.σ[o]? = some a) (hc : a.isCap = false) (hd : a ≠ .dfr) : RelS (C.kill o) := by
  refine RelS.of (fun k x hk => ?_) (fun a b ha hb e => ?_)
  · rcases kill_get hk with ⟨_, rfl⟩ | ⟨_, h2⟩
    · trivial
    · exact (h.good h2).mono (kill_ext ho hc hd) rfl (fun _ => rfl)
  · obtain ⟨la, ha⟩ := Option.isSome_iff_exists.1 ha
    obtain ⟨lb, hb⟩ := Option.isSome_iff_exists.1 hb
    exact h.inj a b (by simp [(kill_lim ha).2]) (by simp [(kill_lim hb).2]) e
def Ctx.pass (C : Ctx) (o : Nat) (cs : List AV) : Ctx := { φ := fun k => if k = C.σ.length then C.φ o else C.φ k, σ := C.σ.set o .dead ++ [.cells cs], w := C.w }
theorem pass_get {C : Ctx} {o k : Nat} {cs : List AV} {x : AO} (hx : (C.pass o cs).σ[k]? = some x) : (k < C.σ.length ∧ (C.kill o).σ[k]? = some x) ∨ (k = C.σ.length ∧ x = .cells cs) := by
  rcases app1_get hx with ⟨h1, h2⟩ | ⟨h1, h2⟩
  · exact .inl ⟨by simpa using h1, h2⟩
  · exact .inr ⟨by simpa using h1, h2⟩
theorem pass_φ_old {C : Ctx} {o k : Nat} {cs : List AV} (h : k < C.σ.length) : (C.pass o cs).φ k = C.φ k := by simp [Ctx.pass, Nat.ne_of_lt h]
theorem pass_φ_at {C : Ctx} {o : Nat} {cs : List AV} : (C.pass o cs).φ C.σ.length = C.φ o := by simp [Ctx.pass]
theorem pass_lim {C : Ctx} {o k l : Nat} {cs : List AV} (h : (C.pass o cs).lim k = some l) : (k < C.σ.length ∧ k ≠ o ∧ C.lim k = some l) ∨ (k = C.σ.length ∧ l = 0) := by
  obtain ⟨a, h1, h2⟩ := lim_get h
  rcases pass_get h1 with ⟨k1, k2⟩ | ⟨rfl, rfl⟩
  · have := kill_lim (C := C) (o := o) (k := k) (l := l) ((lim_of k2).trans h2)
    exact .inl ⟨k1, this⟩
  · cases h2
    exact .inr ⟨rfl, rfl⟩
theorem pass_ext {C : Ctx} {o : Nat} {cs : List AV} (ho : C.σ[o]? = some (.cells cs)) : Ext C (C.pass o cs) := by
  have hk := kill_ext ho rfl (by simp)
  refine ⟨Nat.le_refl _, fun k a h1 h2 => ?_, fun k n sz h1 => ?_, fun b off h => ⟨rfl, h.1, fun k l hk e => ?_⟩, fun b h => ⟨rfl, h.1, fun k l hk e => ?_⟩, fun _ arr _ _ h => ⟨arr, h, rfl⟩, fun k h1 => ?_, fun k h1 => ?_, rfl, rfl, rfl⟩
  · obtain ⟨_, a', g1, g2⟩ := hk.ids k a h1 h2
    exact ⟨pass_φ_old (get_lt h1), a', app1_old g1, g2⟩
  · obtain ⟨n', g1, g2, g3⟩ := hk.caps k n sz h1
    exact ⟨n', app1_old g1, g2, fun _ => pass_φ_old (get_lt h1)⟩
  · rcases pass_lim hk with ⟨h1, _, h2⟩ | ⟨rfl, rfl⟩
    · rw [pass_φ_old h1] at e
      exact h.2 k l h2 e
    · rw [pass_φ_at] at e
      exact h.2 o 0 ((lim_of ho).trans rfl) e
  · rcases pass_lim hk with ⟨h1, _, h2⟩ | ⟨rfl, rfl⟩
    · rw [pass_φ_old h1] at e
      exact h.2 k l h2 e
    · rw [pass_φ_at] at e
      exact h.2 o 0 ((lim_of ho).trans rfl) e
  · obtain ⟨g1, g2⟩ := hk.dfr k h1
    exact ⟨app1_old g1, by rw [pass_φ_old (get_lt h1)]; rfl⟩
  · rcases pass_get h1 with ⟨_, h2⟩ | ⟨_, e⟩
    · rcases hk.fresh k h2 with h3 | h3
      · exact .inl h3
      · exact .inl (by
          rcases kill_get h2 with ⟨_, e⟩ | ⟨_, h⟩
          · cases e
          · exact h)
    · cases e
theorem pass_rel {C : Ctx} (h : RelS C) {o : Nat} {cs : List AV} (ho : C.σ[o]? = some (.cells cs)) : RelS (C.pass o cs) := by
  have hlo : (C.lim o).isSome = true := by rw [lim_of ho]; rfl
  refine RelS.of (fun k x hk => ?_) (fun a b ha hb e => ?_)
  · rcases pass_get hk with ⟨h1, h2⟩ | ⟨rfl, rfl⟩
    · rcases kill_get h2 with ⟨_, rfl⟩ | ⟨_, h3⟩
      · trivial
      · exact (h.good h3).mono (pass_ext ho) (pass_φ_old h1) (fun _ => rfl)
    · obtain ⟨arr, T, a1, a2, a3, a4⟩ := h.cells o cs ho
      exact ⟨arr, T, by rw [pass_φ_at]; exact a1, a2, RelL.mono (pass_ext ho) a3, a4⟩
  · obtain ⟨la, ha⟩ := Option.isSome_iff_exists.1 ha
    obtain ⟨lb, hb⟩ := Option.isSome_iff_exists.1 hb
    rcases pass_lim ha with ⟨a1, a2, a3⟩ | ⟨rfl, _⟩ <;> rcases pass_lim hb with ⟨b1, b2, b3⟩ | ⟨rfl, _⟩
    · rw [pass_φ_old a1, pass_φ_old b1] at e
      exact h.inj a b (by simp [a3]) (by simp [b3]) e
    · rw [pass_φ_old a1, pass_φ_at] at e
      exact absurd (h.inj a o (by simp [a3]) hlo e) a2
    · rw [pass_φ_old b1, pass_φ_at] at e
      exact absurd (h.inj b o (by simp [b3]) hlo e.symm) b2
    · rfl
end Go.Proofs.Ev
