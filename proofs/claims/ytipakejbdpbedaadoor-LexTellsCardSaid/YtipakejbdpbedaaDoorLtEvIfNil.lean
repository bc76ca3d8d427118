import Derived.Test.YtipakejbdpbedaaDoorLtEvLateR
import Derived.WideLaws
/-! An interface value held against nil. -/
namespace Go.Proofs.Ev
set_option linter.unusedSimpArgs false
set_option linter.unusedVariables false
open Go
variable {F : Fr} {P : Program} {Γ : List (Nat × List AV)}
theorem run_if_nil {w : World} {T U : TypeId} (hT : P.underlying T = some (.interface (P.methodsAt T))) {ρ : Operand → Value} {t : Tmp} {v : Value} {r : Bool} (hv : (v = .nilIface ∧ r = false) ∨ (∃ u x, v = .iface u x ∧ r = true)) (ht : ρ (.tmp t) = v) (hn : ρ (.const .nilIface) = .nilIface) {d : Option Tmp} {pos : String} {af : Array Edge} {ty : TypeId} :
    (execOp ρ ⟨d, .binOp .neq T (.tmp t) (.const .nilIface) U, ty, pos, af, none⟩).run P w = .ok (.value (.bool r)) w := by
  simp only [execOp, ht, hn]
  rcases hv with ⟨rfl, rfl⟩ | ⟨u, x, rfl, rfl⟩
  · simp [eqGuard, run_neq_nil_nil w T hT]
  · simp [eqGuard, run_neq_held_nil w T u x hT]
theorem AW.ifnil {id : Nat} {t b g : Tmp} {T U ty0 ty1 : TypeId} {pos0 pos1 : String} {af0 af1 : Array Edge} {v : AV} {r : Bool} {y : Code} {env : Env} {σ : Sto} {Q : Exit → Env → Sto → Prop} (hT : P.underlying T = some (.interface (P.methodsAt T))) (hv : (v = .val .nilIface ∧ r = false) ∨ (∃ u x, v = .ifc u x ∧ r = true)) (hg : env[g]? = some v) (ht : env[t]? = some .any)
    (k : AW F P Γ y (env.set b (.val (.bool r))) σ Q) : AW F P Γ (.seq (.region id #[⟨some t, .move (.tmp g), ty0, pos0, af0, none⟩, ⟨some b, .binOp .neq T (.tmp t) (.const .nilIface) U, ty1, pos1, af1, none⟩] false) y) env σ Q := by
  have htl : t < List.length env := (List.getElem?_eq_some_iff.1 ht).1
  refine AW.seq (AW.region (l := [_, _]) ?_)
  refine AOps.op (md := false) (want_none rfl) (v := v) (σ' := σ) ?_ ?_
  · have hgo : opnd Γ env (.tmp g) = v := by simp [opnd, List.getD_eq_getElem?_getD, hg]
    simp [aop, hgo]
  · intro C a Q hs hq
    unfold wpListIn
    rw [if_pos (by simp [Region.wanted])]
    refine ⟨fun f _ => fence_fn F f, ?_⟩
    have hx := opnd_ok hs.G hs.L (.tmp t)
    have hxv : opnd Γ (aput env (some t) v) (.tmp t) = v := by simp [opnd, aput, List.getD_eq_getElem?_getD, htl]
    rw [hxv] at hx
    have hz : (a.eval (.tmp t) = .nilIface ∧ r = false) ∨ (∃ u x, a.eval (.tmp t) = .iface u x ∧ r = true) := by
      rcases hv with ⟨rfl, hr⟩ | ⟨u, x, rfl, hr⟩
      · exact .inl ⟨by simpa [RelV] using hx, hr⟩
      · simp only [RelV] at hx
        obtain ⟨z, hz, _⟩ := hx
        exact .inr ⟨u, z, hz, hr⟩
    rw [Oper.semAt_eq _ _ _ (fun c e => by cases e), run_if_nil hT hz rfl rfl]
    have hs2 := hs.did (Ext.refl _) hs.S (v := .val (.bool r)) (y := .bool r) rfl (some b)
    refine hq .normal _ _ ((hs2.post ⟨rfl, ?_⟩))
    rw [hs.σ]
    refine AW.weaken ?_ k
    refine wk_of (by simp [aput]) fun j => ?_
    simp only [aput, List.getD_eq_getElem?_getD, List.getElem?_set]
    by_cases hjb : b = j
    · subst hjb
      simp
    · simp only [hjb, if_false]
      by_cases hjt : t = j
      · subst hjt
        left
        simp [ht]
      · simp [hjt]
end Go.Proofs.Ev

