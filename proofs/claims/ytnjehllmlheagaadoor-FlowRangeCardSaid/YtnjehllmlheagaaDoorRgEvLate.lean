import Derived.Test.YtnjehllmlheagaaDoorRgEvChain
/-! An element that is written behind its append. -/
namespace Go.Proofs.Ev
set_option linter.unusedSimpArgs false
set_option linter.unusedVariables false
open Go
variable {P : Program}

theorem flatC_len {sz : Nat} : ∀ {es : List AV}, (∀ e ∈ es, e.cells.length = sz) → (es.flatMap AV.cells).length = es.length * sz
  | [], _ => by simp
  | e :: es, h => by
    rw [List.flatMap_cons, List.length_append, h e List.mem_cons_self, flatC_len fun e he => h e (List.mem_cons_of_mem _ he), List.length_cons, Nat.add_mul]
    omega
end Go.Proofs.Ev

