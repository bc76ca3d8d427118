import Derived.Test.YtnjehllmlheagaaDoorFkEvMapI
/-! A slice held against nil. -/
namespace Go.Proofs.Ev
set_option linter.unusedSimpArgs false
set_option linter.unusedVariables false
open Go
variable {F : Fr} {P : Program} {Γ : List (Nat × List AV)}
theorem run_sl_nil {w : World} {T U e : TypeId} (hT : P.underlying T = some (.slice e)) {ρ : Operand → Value} {t : Tmp} {A : Option Addr} {n c : Nat} (ht : ρ (.tmp t) = .slice A n c) (hn : ρ (.const (.slice none 0 0)) = .slice none 0 0) {d : Option Tmp} {pos : String} {af : Array Edge} {ty : TypeId} :
  (execOp ρ ⟨d, .binOp .eql T (.tmp t) (.const (.slice none 0 0)) U, ty, pos, af, none⟩).run P w = .ok (.value (.bool A.isNone)) w := by
 have he : (Op.equal T (.slice A n c) (.slice none 0 0)).run P w = .ok A.isNone w := by
  have := equalIn_nil (P := P) hT 9999 A none n c 0 0 (.inr rfl) w
  simpa [Op.equal, Op.maxDepth] using this
 simp only [execOp, ht, hn]
 simp [eqGuard, binOp, he]
/-- Whether a slice is nil is known. -/
def NilIs (v : AV) (b : Bool) : Prop := ∀ C x, RelV C v x → ∃ A n c, x = .slice A n c ∧ A.isNone = b
theorem NilIs.nil : NilIs .nilsl true := fun _ x h => ⟨none, 0, 0, h, rfl⟩
theorem NilIs.sl (sz : Nat) (es : List AV) : NilIs (.sl sz es) false := fun _ x ⟨b, off, c, s, h, _⟩ => ⟨_, _, _, h, rfl⟩
theorem AW.slnil {id : Nat} {t b g : Tmp} {T U ty0 ty1 e : TypeId} {pos0 pos1 : String} {af0 af1 : Array Edge} {v : AV} {r : Bool} {y : Code} {env : Env} {σ : Sto} {Q : Exit → Env → Sto → Prop} (hT : P.underlying T = some (.slice e)) (hg : env[g]? = some v) (hv : NilIs v r) (ht : env[t]? = some .any)
  (k : AW F P Γ y (env.set b (.val (.bool r))) σ Q) : AW F P Γ (.seq (.region id #[⟨some t, .move (.tmp g), ty0, pos0, af0, none⟩, ⟨some b, .binOp .eql T (.tmp t) (.const (.slice none 0 0)) U, ty1, pos1, af1, none⟩] false) y) env σ Q := by
 have htl : t < List.length env := (List.getElem?_eq_some_iff.1 ht).1
 refine AW.seq (AW.region (l := [_, _]) ?_)
 refine AOps.op (md := false) (want_none rfl) (v := v) (σ' := σ) ?_ ?_
 ·have hgo : opnd Γ env (.tmp g) = v := by simp [opnd, List.getD_eq_getElem?_getD, hg]
  simp [aop, hgo]
 ·intro C a Q hs hq
  unfold wpListIn
  rw [if_pos (by simp [Region.wanted])]
  refine ⟨fun f _ => fence_fn F f, ?_⟩
  have hx := opnd_ok hs.G hs.L (.tmp t)
  have hxv : opnd Γ (aput env (some t) v) (.tmp t) = v := by simp [opnd, aput, List.getD_eq_getElem?_getD, htl]
  rw [hxv] at hx
  obtain ⟨A, n, c, hx, rfl⟩ := hv C _ hx
  rw [Oper.semAt_eq _ _ _ (fun c e => by cases e), run_sl_nil hT hx rfl]
  have hs2 := hs.did (Ext.refl _) hs.S (v := .val (.bool A.isNone)) (y := .bool A.isNone) rfl (some b)
  refine hq .normal _ _ ((hs2.post ⟨rfl, ?_⟩))
  rw [hs.σ]
  refine AW.weaken ?_ k
  refine wk_of (by simp [aput]) fun j => ?_
  simp only [aput, List.getD_eq_getElem?_getD, List.getElem?_set]
  by_cases hjb : b = j
  ·subst hjb
   simp
  ·simp only [hjb, if_false]
   by_cases hjt : t = j
   ·subst hjt
    left
    simp [ht]
   ·simp [hjt]
end Go.Proofs.Ev

