import Derived.Test.YtnfimclkiccdhaaDoorPtEvApU
/-! The head of a row with the right to append is frozen (a string shares it). -/
namespace Go.Proofs.Ev
set_option linter.unusedSimpArgs false
set_option linter.unusedVariables false
open Go
def Ctx.frez (C : Ctx) (k : Nat) (arr : Array Value) (T : TypeId) (fr : Nat × Nat) : Ctx := { C with w := setBlk C.w (C.φ k) (.cells arr T fr) }
theorem frez_ok {C : Ctx} (hS : RelS C) {k n sz : Nat} {arr : Array Value} {T : TypeId} {fr fr' : Nat × Nat} (hk : C.σ[k]? = some (.cap n sz)) (hn : 0 < n) (hpos : 0 < sz) (hb : C.w.heap[C.φ k]? = some (.cells arr T fr)) (hfr : fr'.2 ≤ n * sz) :
    Ext C (C.frez k arr T fr') ∧ RelS (C.frez k arr T fr') := by
  have hlim : C.lim k = some (n * sz) := by
    rw [lim_of hk]
    simp only [AO.lim]
    rw [if_neg (by omega)]
  have hat : (C.frez k arr T fr').w.heap[C.φ k]? = some (.cells arr T fr') := setBlk_same _ _ _ (lt_of_heap hb)
  have hoth : ∀ b, b ≠ C.φ k → (C.frez k arr T fr').w.heap[b]? = C.w.heap[b]? := fun b h => setBlk_other _ _ _ _ h
  have hsz : (C.frez k arr T fr').w.heap.size = C.w.heap.size := setBlk_size _ _ _
  have hE : Ext C (C.frez k arr T fr') := by
    refine ⟨by rw [hsz]; exact Nat.le_refl _, fun o a h1 h2 => ⟨rfl, a, h1, h2⟩, fun o m z h => ⟨m, h, Nat.le_refl _, fun _ => rfl⟩, fun b off h => ⟨?_, by rw [hsz]; exact h.1, h.2⟩, fun b h => ⟨hoth b (fun e => h.2 k _ hlim e.symm), by rw [hsz]; exact h.1, h.2⟩, fun b ar U f h => ?_, fun o ho => ⟨ho, hoth _ fun e => ?_⟩, fun o ho => .inl ho, rfl, rfl, rfl⟩
    · by_cases e : b = C.φ k
      · rw [e, cell_of_row _ _ _ _ _ _ hat, cell_of_row _ _ _ _ _ _ hb]
      · exact cell_of_heap (hoth b e)
    · by_cases e : b = C.φ k
      · rw [e] at h ⊢
        rw [hb] at h
        cases h
        exact ⟨arr, fr', hat, rfl⟩
      · exact ⟨ar, f, (hoth b e).trans h, rfl⟩
    · obtain ⟨x, hx⟩ := hS.dfr o ho
      have e : C.φ o = C.φ k := e
      rw [e, hb] at hx
      cases hx
  refine ⟨hE, RelS.of (fun o a ho => ?_) (fun a b ha hb' e => hS.inj a b ha hb' e)⟩
  have ho' : C.σ[o]? = some a := ho
  by_cases e : o = k
  · subst e
    rw [hk] at ho'
    cases ho'
    intro _
    obtain ⟨arr', T', f, g1, g2, g3, g4⟩ := hS.cap o n sz hk hn
    rw [hb] at g1
    cases g1
    exact ⟨arr, T, fr', hat, g2, g3, hfr⟩
  · refine (hS.good ho').mono hE rfl (fun hl => hoth _ fun e2 => e (hS.inj o k (by rw [lim_of ho']; exact hl) (by rw [hlim]; rfl) e2))
theorem freeze_eq {w : World} {g n : Nat} {arr : Array Value} {T : TypeId} {fr : Nat × Nat} (hb : w.heap[g]? = some (.cells arr T fr)) (hn : n ≠ 0) :
    w.freeze ⟨g, 0, none⟩ n = setBlk w g (.cells arr T (if fr.1 == fr.2 then (0, 0 + n) else (min fr.1 0, max fr.2 (0 + n)))) := by
  unfold World.freeze setBlk
  rw [if_neg hn]
  congr 1
  apply Array.ext
  · simp
  · intro i h1 h2
    rw [Array.getElem_modify, Array.getElem_setIfInBounds (by simpa using h2)]
    split
    · rename_i e
      subst e
      obtain ⟨_, e⟩ := Array.getElem?_eq_some_iff.1 hb
      rw [e]
    · rfl
end Go.Proofs.Ev

