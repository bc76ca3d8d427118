import Derived.Test.YtipakejbdpbedaaDoorLtEvRange
/-! Ranges over functions. -/
namespace Go.Proofs.Ev
set_option linter.unusedSimpArgs false
set_option linter.unusedVariables false
open Go
variable {F : Fr} {P : Program} {Γ : List (Nat × List AV)}
mutual
theorem AV.bel_up {n m : Nat} (h : n ≤ m) : ∀ {v : AV}, v.bel n = true → v.bel m = true
  | .any, _ | .val _, _ | .nilsl, _ => rfl
  | .agg cs, k | .tup cs, k | .sl _ cs, k | .slf _ cs, k | .er cs, k | .fn _ cs, k | .mapf _ cs, k => belL_up h (cs := cs) k
  | .ref o _, k | .osl o _ _ _, k | .mapo o, k | .yl o, k => by
    simp only [AV.bel, decide_eq_true_eq] at k ⊢
    omega
  | .slo _ _ es o, k => by
    simp only [AV.bel, Bool.and_eq_true, decide_eq_true_eq] at k ⊢
    exact ⟨by omega, belL_up h k.2⟩
  | .ifc _ v, k => AV.bel_up h (v := v) k
theorem belL_up {n m : Nat} (h : n ≤ m) : ∀ {cs : List AV}, belL n cs = true → belL m cs = true
  | [], _ => rfl
  | c :: cs, k => by
    simp only [belL, Bool.and_eq_true] at k ⊢
    exact ⟨AV.bel_up h k.1, belL_up h k.2⟩
end

end Go.Proofs.Ev

