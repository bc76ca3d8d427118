import Derived.Test.YteekpkbmkibacaaDoorLAstT
/-! The law AstPrograms. -/
namespace Go.Proofs.Tryd
set_option linter.unusedSimpArgs false
set_option linter.unusedVariables false
open Go Go.Proofs.Ev
namespace A
variable {Γ : List (Nat × List AV)}
theorem norm_size : ∀ e : E, e.norm.size = e.size := E.ind fun k o n s nl l ih => by
  have go : ∀ l : List E, (∀ e ∈ l, e.norm.size = e.size) → sizeL (l.map E.norm) = sizeL l := by
    intro l
    induction l with
    | nil => intro _; rfl
    | cons e l ih' =>
      intro h
      simp only [List.map_cons, sizeL, h e List.mem_cons_self, ih' fun d hd => h d (List.mem_cons_of_mem _ hd)]
  rw [E.norm_mk, E.size, E.size, go l ih]
theorem norm_depth : ∀ e : E, e.norm.depth = e.depth := E.ind fun k o n s nl l ih => by
  have go : ∀ l : List E, (∀ e ∈ l, e.norm.depth = e.depth) → depthL (l.map E.norm) = depthL l := by
    intro l
    induction l with
    | nil => intro _; rfl
    | cons e l ih' =>
      intro h
      simp only [List.map_cons, depthL, h e List.mem_cons_self, ih' fun d hd => h d (List.mem_cons_of_mem _ hd)]
  rw [E.norm_mk, E.depth, E.depth, go l ih]
theorem norm_shape : ∀ e : E, e.norm.shape = e.shape := E.ind fun k o n s nl l ih => by
  have go : ∀ l : List E, (∀ e ∈ l, e.norm.shape = e.shape) → shapeL (l.map E.norm) = shapeL l := by
    intro l
    induction l with
    | nil => intro _; rfl
    | cons e l ih' =>
      intro h
      simp only [List.map_cons, shapeL, h e List.mem_cons_self, ih' fun d hd => h d (List.mem_cons_of_mem _ hd)]
  rw [E.norm_mk, E.shape, E.shape, go l ih, List.length_map]
theorem norm_pre : ∀ e : E, e.norm.pre = e.pre.map E.norm := E.ind fun k o n s nl l ih => by
  have go : ∀ l : List E, (∀ e ∈ l, e.norm.pre = e.pre.map E.norm) → preL (l.map E.norm) = (preL l).map E.norm := by
    intro l
    induction l with
    | nil => intro _; rfl
    | cons e l ih' =>
      intro h
      simp only [List.map_cons, preL, List.map_append, h e List.mem_cons_self, ih' fun d hd => h d (List.mem_cons_of_mem _ hd)]
  rw [E.norm_mk, E.pre, E.pre, go l ih, List.map_cons, E.norm_mk]
theorem norm_fits {e : E} (h : e.fits) : e.norm.fits := by
  intro d hd
  rw [norm_pre] at hd
  obtain ⟨x, hx, rfl⟩ := List.mem_map.1 hd
  have := h x hx
  cases x
  rw [E.norm_mk]
  exact this
theorem own_exprR (e : E) : exprR e.norm = exprR e := by rw [exprR, exprR, norm_shape, norm_depth]
theorem eqown_ok {q : EqM} (h : q.ok) : q.own.ok := ⟨h.1, by rw [EqM.own, norm_size]; exact h.2.1, norm_fits h.2.2⟩
theorem nodeown_ok {n : NodeM} (h : n.ok) : n.own.ok := by
  refine ⟨h.1, h.2.1, h.2.2.1, h.2.2.2.1, by simpa [NodeM.own] using h.2.2.2.2.1, fun q hq => ?_⟩
  obtain ⟨x, hx, rfl⟩ := List.mem_map.1 hq
  exact eqown_ok (h.2.2.2.2.2 x hx)
theorem progown_ok {p : ProgM} (h : p.ok) : p.own.ok := by
  refine ⟨by simpa [ProgM.own] using h.1, fun n hn => ?_⟩
  obtain ⟨x, hx, rfl⟩ := List.mem_map.1 hn
  exact nodeown_ok (h.2 x hx)
theorem eqown_right (q : EqM) : q.own.right = q.right := by
  show (_ && exprR q.rhs.norm) = _
  rw [own_exprR]
  rfl
theorem nodeown_right (n : NodeM) : n.own.right = n.right := by
  have : n.own.eqs.any (fun q => !q.right) = n.eqs.any fun q => !q.right := by
    simp only [NodeM.own, List.any_map]
    congr 1
    funext q
    simp only [Function.comp, eqown_right]
  unfold NodeM.right
  rw [this]
  simp [NodeM.own]
theorem progown_right (p : ProgM) : p.own.right = p.right := by
  have : p.own.nodes.any (fun n => !n.right) = p.nodes.any fun n => !n.right := by
    simp only [ProgM.own, List.any_map]
    congr 1
    funext n
    simp only [Function.comp, nodeown_right]
  unfold ProgM.right
  rw [this]
  simp [ProgM.own]
end A
end Go.Proofs.Tryd

