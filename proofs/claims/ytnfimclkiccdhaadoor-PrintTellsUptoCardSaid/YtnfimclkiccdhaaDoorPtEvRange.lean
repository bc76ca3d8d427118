import Derived.Test.YtnfimclkiccdhaaDoorPtEvMapS
/-! Functions that hold ranges over functions; iterators. -/
namespace Go.Proofs.Ev
set_option linter.unusedSimpArgs false
set_option linter.unusedVariables false
open Go
variable {F : Fr} {P : Program} {Γ : List (Nat × List AV)}

/-- A block for the rounds' deferred calls is shut. -/
def Ctx.shut (C : Ctx) (o : Nat) : Ctx := { C with w := C.w.putObj (C.φ o) (.deferred none) }
theorem shut_other {C : Ctx} {o b : Nat} (h : b ≠ C.φ o) : (C.shut o).w.heap[b]? = C.w.heap[b]? := World.putObj_heap_other h
theorem shut_less {C : Ctx} {o n : Nat} {x : Option (List Deferred)} (hb : C.w.heap[C.φ o]? = some (.deferred x)) : Less n C (C.shut o) := by
  refine ⟨by simp [Ctx.shut], fun b arr T fr h => ?_, fun b es ck h => ?_, fun _ _ => ⟨rfl, rfl⟩, fun o' l h => ⟨o', h, rfl⟩⟩
  · rw [shut_other (fun e => by rw [e, hb] at h; cases h)]
    exact h
  · rw [shut_other (fun e => by rw [e, hb] at h; cases h)]
    exact h
theorem shut_rel {C : Ctx} (h : RelS C) {o : Nat} (ho : C.σ[o]? = some .dfr) : RelS (C.shut o) := by
  obtain ⟨x, hb⟩ := h.dfr o ho
  have hl := shut_less (n := C.σ.length) hb
  refine ⟨fun k cs hk => ?_, fun k ks vs hk => ?_, fun k m sz hk hm => ?_, fun k hk => ?_, fun k r e hk => ?_, fun k g hk => gh_keep hl (GhOk.lt (h.gh k g hk)) (h.gh k g hk), h.inj⟩
  · obtain ⟨arr, T, h1, h2, h3, h4⟩ := h.cells k cs hk
    exact ⟨arr, T, hl.blk _ _ _ _ h1, h2, RelL.keep hl (RelL.bel h3) h3, h4⟩
  · obtain ⟨es, ck, h1, h2, h3⟩ := h.map k ks vs hk
    exact ⟨es, ck, hl.mp _ _ _ h1, h2, RelL.keep hl (RelL.bel h3) h3⟩
  · obtain ⟨arr, T, fr, h1, h2, h3⟩ := h.cap k m sz hk hm
    exact ⟨arr, T, fr, hl.blk _ _ _ _ h1, h2, h3⟩
  · have hk' : C.σ[k]? = some .dfr := hk
    show ∃ x, (C.shut o).w.heap[C.φ k]? = _
    by_cases e : C.φ k = C.φ o
    · rw [e]
      exact ⟨none, World.putObj_heap_same (lt_of_heap hb)⟩
    · rw [shut_other e]
      exact h.dfr k hk'
  · have hk' : C.σ[k]? = some (.loop r e) := hk
    obtain ⟨h1, h2⟩ := h.loop k r e hk'
    refine ⟨?_, RelL.keep hl (RelL.bel h2) h2⟩
    show (C.shut o).w.heap[C.φ k]? = _
    rw [shut_other]
    · exact h1
    · intro e
      have := h.inj k o (by rw [lim_of hk']; rfl) (by rw [lim_of ho]; rfl) e
      rw [this, ho] at hk'
      cases hk'
theorem shut_ext {C D : Ctx} (h : Ext C D) (hS : RelS D) {o : Nat} (hn : C.σ.length ≤ o) (ho : D.σ[o]? = some .dfr) : Ext C (D.shut o) := by
  obtain ⟨x, hb⟩ := hS.dfr o ho
  have hge : C.w.heap.size ≤ D.φ o := by
    rcases h.fresh o ho with h1 | h1
    · have := get_lt h1
      omega
    · exact h1
  have hne : ∀ b, b < C.w.heap.size → (D.shut o).w.heap[b]? = D.w.heap[b]? := fun b hb => shut_other (by omega)
  have hl := shut_less (n := 0) hb
  refine ⟨by simp [Ctx.shut]; exact h.size, h.ids, h.caps, fun b off hf => ?_, fun b hf => ?_, fun b arr T fr hc => ?_, fun k hk => ?_, fun k hk => h.fresh k hk, h.os, h.tape, h.output⟩
  · obtain ⟨e1, e2⟩ := h.fixC b off hf
    exact ⟨(cell_of_heap (hne b hf.1)).trans e1, hl.fixC e2⟩
  · obtain ⟨e1, e2⟩ := h.fixB b hf
    exact ⟨(hne b hf.1).trans e1, hl.fixB e2⟩
  · obtain ⟨arr', fr', e1, e2⟩ := h.shape b arr T fr hc
    exact ⟨arr', fr', hl.blk _ _ _ _ e1, e2⟩
  · obtain ⟨e1, e2⟩ := h.dfr k hk
    refine ⟨e1, ?_⟩
    show (D.shut o).w.heap[D.φ k]? = _
    rw [shut_other]
    · exact e2
    · intro e
      have := hS.inj k o (by rw [lim_of e1]; rfl) (by rw [lim_of ho]; rfl) e
      have := get_lt hk
      omega
theorem leaves {C : Ctx} {fn : Func} {R : Ending → World → Prop} {tmps : Array Value} {env : Env} : ∀ (ms : List Nat) (D : Ctx), ms.Nodup → (∀ o ∈ ms, C.σ.length ≤ o ∧ D.σ[o]? = some .dfr ∧ D.w.heap[D.φ o]? = some (.deferred (some []))) →
    Ext C D → RelS D → RelL D env tmps.toList → (∀ E, E.σ = D.σ → Ext C E → RelS E → RelL E env tmps.toList → ∃ y, (results fn tmps).run P E.w = .ok y E.w ∧ R (.returned y) E.w) →
    LeavesInM Fence.wide 3 P fn tmps R (ms.map fun o => { target := .collected (D.φ o), args := #[] }) .returning D.w
  | [], D, _, _, he, hS, hl, hfin => by
    obtain ⟨y, h1, h2⟩ := hfin D rfl he hS hl
    exact ⟨y, h1, h2⟩
  | o :: ms, D, hnd, hm, he, hS, hl, hfin => by
    obtain ⟨h1, h2, h3⟩ := hm o List.mem_cons_self
    obtain ⟨hno, hnd'⟩ := List.nodup_cons.1 hnd
    refine ⟨by simp, .inl ⟨D.φ o, (D.shut o).w, rfl, run_takeDeferred h3, ?_⟩⟩
    refine leaves ms (D.shut o) hnd' (fun k hk => ?_) (shut_ext he hS h1 h2) (shut_rel hS h2) (RelL.keep (shut_less (n := D.σ.length) h3) (RelL.bel hl) hl) (fun E e1 e2 e3 e4 => hfin E e1 e2 e3 e4)
    obtain ⟨g1, g2, g3⟩ := hm k (List.mem_cons_of_mem _ hk)
    refine ⟨g1, g2, ?_⟩
    show (D.shut o).w.heap[D.φ k]? = _
    rw [shut_other]
    · exact g3
    · intro e
      have := hS.inj k o (by rw [lim_of g2]; rfl) (by rw [lim_of h2]; rfl) e
      rw [this] at hk
      exact hno hk
/-- A function that may hold ranges over functions is its body. -/
theorem ACalls.ofM {f : FuncId} {fn : Func} {c : Code} {args : List AV} {σ : Sto} {R : AV → Sto → Prop} (hf : P.funcs[f]? = some fn) (hb : fn.body = some c)
    (h : AW (.marks σ.length) P Γ c (args ++ List.replicate (fn.ntmps - args.length) .any) σ (fun e env σ' => (e = .normal ∨ e = .ret) ∧ ∃ v, aReturn P fn σ' env = some v ∧ R v σ')) : ACalls P Γ f args σ R := by
  intro C xs h1 h2 h3 h4
  refine (callsIn_wide (n := 3)).1 (callsIn_of_wp_marks hf hb trivial ?_ rfl)
  have hlen := relL_length h4
  refine wpIn_mono (h C _ ⟨h1, h2, h3, ?_, DOk.nil⟩) ?_
  · simp only [Array.toList_append, Array.toList_replicate, List.size_toArray, ← hlen]
    refine relL_append h4 ?_
    have := relL_any (C := C) (List.replicate (fn.ntmps - args.length) undef)
    simpa using this
  · rintro e a w ⟨D, env, rfl, k2, k3, k4, k5, k6, he, v, k7, k8⟩
    obtain ⟨ms, m1, m2, m3⟩ := k6
    have key : LeavesInM Fence.wide 3 P fn a.tmps (fun e w' => ∃ D x v, e = .returned x ∧ D.w = w' ∧ Ext C D ∧ RelS D ∧ RelV D v x ∧ R v D.σ) a.defers .returning D.w := by
      rw [m2]
      refine leaves (C := C) (env := env) ms D m1 (fun o ho => ?_) k2 k3 k5 fun E e1 e2 e3 e4 => ?_
      · obtain ⟨g1, g2, g3⟩ := m3 o ho
        exact ⟨by rw [h1]; exact g1, g2, g3⟩
      · obtain ⟨y, l1, l2⟩ := aReturn_ok e3 e4 (by rw [e1]; exact k7)
        exact ⟨y, l1, E, y, v, rfl, rfl, e2, e3, l2, by rw [e1]; exact k8⟩
    rcases he with rfl | rfl <;> exact key
theorem APureOn.ofM {f : FuncId} {fn : Func} {c : Code} {args : List AV} {σ : Sto} {v : AV} (hf : P.funcs[f]? = some fn) (hb : fn.body = some c)
    (h : ∀ τ, AW (.marks (σ ++ τ).length) P Γ c (args ++ List.replicate (fn.ntmps - args.length) .any) (σ ++ τ) (fun e env σ' => (e = .normal ∨ e = .ret) ∧ ∃ v', aReturn P fn σ' env = some v' ∧ σ'.take (σ ++ τ).length = σ ++ τ ∧ Frz (σ ++ τ).length σ' v' v)) : APureOn P Γ f args σ v := by
  intro τ
  refine ACalls.pure (R := fun v' σ' => σ'.take (σ ++ τ).length = σ ++ τ ∧ Frz (σ ++ τ).length σ' v' v) (ACalls.ofM hf hb ?_) ?_
  · refine (h τ).mono fun e env σ' hq => ⟨hq.1, ?_⟩
    obtain ⟨_, v', h1, h2⟩ := hq
    exact ⟨v', h1, h2⟩
  · rintro v' σ' ⟨h1, h2⟩
    exact ⟨h1, v, h2, rfl⟩
end Go.Proofs.Ev

