import Derived.Test.YtnjehllmlheagaaDoorRgEvSeqLate
/-! Two operations of a drawn region that may come in either order; a coin. -/
namespace Go.Proofs.Ev
set_option linter.unusedSimpArgs false
set_option linter.unusedVariables false
open Go
variable {F : Fr} {P : Program} {Γ : List (Nat × List AV)}
mutual
/-- What holds no identity is left as it is. -/
theorem sub_bel0 (o len sz : Nat) (es : List AV) : ∀ v : AV, v.bel 0 = true → v.sub o len sz es = v
  | .agg cs, h | .tup cs, h | .sl _ cs, h | .slf _ cs, h | .er cs, h | .fn _ cs, h | .mapf _ cs, h => by
    simp only [AV.sub, subL_bel0 o len sz es cs h]
  | .slo _ _ ds k, h => by simp [AV.bel] at h
  | .osl o' _ _ _, h => by simp [AV.bel] at h
  | .ifc t v, h => by simp only [AV.sub, sub_bel0 o len sz es v h]
  | .any, _ | .val _, _ | .nilsl, _ | .ref _ _, _ | .mapo _, _ | .yl _, _ => rfl
theorem subL_bel0 (o len sz : Nat) (es : List AV) : ∀ l : List AV, belL 0 l = true → subL o len sz es l = l
  | [], _ => rfl
  | c :: cs, h => by
    simp only [belL, Bool.and_eq_true] at h
    simp only [subL, sub_bel0 o len sz es c h.1, subL_bel0 o len sz es cs h.2]
end
end Go.Proofs.Ev

