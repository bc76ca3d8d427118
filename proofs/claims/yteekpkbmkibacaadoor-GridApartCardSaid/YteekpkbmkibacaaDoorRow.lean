import Derived.Test.YteekpkbmkibacaaDoorDiagM
import Derived.Test.YteekpkbmkibacaaDoorTie
import Derived.Test.YteekpkbmkibacaaDoorCards
import Derived.Test.YteekpkbmkibacaaDoorEvRow
import Derived.Lib.SmallJoins
import Derived.Deep.DeepWitnessRowRef
/-! What the rows of diag's laws share: the table kinds, a world that holds it, and the way from a contract to the card. -/
namespace Go.Proofs.YteekpkbmkibacaaDoor
set_option linter.unusedSimpArgs false
set_option linter.unusedVariables false
open Go Go.ChangeShapes Go.WideShapes Go.ChangeAt Go.RowKit Go.Proofs.Ev
theorem own : ownKnob Tryd.prog.godebug = none := by kernel_rfl
theorem laidOut : laidOutB Tryd.prog = true := by kernel_rfl
theorem gKinds : Tryd.prog.globalNamed "shuttlecock/diag.kinds" = some 1 := by kernel_rfl
theorem gKindsType : (Tryd.prog.globals[1]?).map (·.type) = some 176 := by kernel_rfl
theorem cells3 : Tryd.prog.cellsOf 3 = 1 := by kernel_rfl
theorem cells2 : Tryd.prog.cellsOf 2 = 1 := by kernel_rfl
theorem cells175 : Tryd.prog.cellsOf 175 = 4 := by kernel_rfl
/-- One entry of kinds, as it reads. -/
def dtK (k : Int × Int × Int × Int) : DataW Unit := .agg [.lit (.int .i64 k.1), .lit (.int .i64 k.2.1), .lit (.int .i64 k.2.2.1), .lit (.int .i64 k.2.2.2)]
theorem wf_lo {k : IntKind} {n : Int} (hk : k.min = 0) (h : (Lit.int k n).wf = true) : 0 ≤ n := by
  simp [Lit.wf] at h
  omega
theorem slot1 {α : Type} {cs : List α} {v : α} {i : Nat} (h : (cs.drop i).take 1 = [v]) : cs[i]? = some v := by
  have := congrArg (·[0]?) h
  simpa [List.getElem?_take, List.getElem?_drop] using this
theorem list4 {α : Type} {cs : List α} (h : cs.length = 4) : ∃ a b c d, cs = [a, b, c, d] := by
  match cs, h with
  | [a, b, c, d], _ => exact ⟨a, b, c, d, rfl⟩
theorem dec_k {W : World} {base : Nat} {sp : Nat → Bool} {held : Bool} {n : Nat} {cs : List Value} {x : DataW Unit × List MemPlace} {a : Int × Int × Int × Int} (h : DataW.trod (fun _ => ()) Tryd.prog W base sp held n 175 cs = some x) (hx : x.1 = dtK a) : CellsOf W (Tryd.encK a).cells cs := by
  obtain ⟨y0, y1, y2, y3, m, rfl, hl, h0, h1, h2, h3⟩ := Go.Joins.trod_struct4 Tryd.underlying175 h
  simp only [dtK, DataW.agg.injEq, List.cons.injEq, and_true] at hx
  obtain ⟨e0, e1, e2, e3⟩ := hx
  obtain ⟨n0, c0, d0, _⟩ := DataW.trod_int Tryd.underlying3 h0
  obtain ⟨n1, c1, d1, _⟩ := DataW.trod_int Tryd.underlying3 h1
  obtain ⟨n2, c2, d2, _⟩ := DataW.trod_int Tryd.underlying2 h2
  obtain ⟨n3, c3, d3, _⟩ := DataW.trod_int Tryd.underlying3 h3
  subst d0 d1 d2 d3
  simp only [DataW.lit.injEq, Lit.int.injEq, true_and] at e0 e1 e2 e3
  change (cs.drop 0).take (Tryd.prog.cellsOf 3) = _ at c0
  rw [cells3] at c0
  have k0 := slot1 c0
  change (cs.drop 1).take (Tryd.prog.cellsOf 3) = _ at c1
  rw [cells3] at c1
  have k1 := slot1 c1
  change (cs.drop 2).take (Tryd.prog.cellsOf 2) = _ at c2
  rw [cells2] at c2
  have k2 := slot1 c2
  change (cs.drop 3).take (Tryd.prog.cellsOf 3) = _ at c3
  rw [cells3] at c3
  have k3 := slot1 c3
  rw [cells175] at hl
  obtain ⟨v0, v1, v2, v3, rfl⟩ := list4 hl
  clear h h0 h1 h2 h3 c0 c1 c2 c3
  simp only [List.getElem?_cons_zero, List.getElem?_cons_succ, Option.some.injEq] at k0 k1 k2 k3
  subst k0 k1 k2 k3 e0 e1 e2 e3
  exact ⟨⟨rfl, rfl, rfl, rfl, trivial⟩, fun v hv => by simp at hv; rcases hv with rfl | rfl | rfl | rfl <;> rfl⟩
theorem wkinds (W : World) (h : laidMetH Tryd.prog Rows.diagNamesRow.laid W) : RelG (C0 W) Tryd.GK := by
  have h1 : laidMet Tryd.prog Rows.diagNamesRow.laid W := h
  obtain ⟨ps, ⟨g', t', cs, fuel, p, q, hg', ht', hvar, hd, _, _⟩, _⟩ := h1
  obtain rfl := Option.some.inj (gKinds.symm.trans hg')
  obtain rfl := Option.some.inj (gKindsType.symm.trans ht')
  have hc := dec_sliceD (sz := 4) Tryd.encK dtK Tryd.underlying176 cells175 (by decide) (fun _ => rfl) (fun n cs x a => dec_k) hd Tryd.kindsT [] rfl
  intro x hx
  simp only [List.mem_singleton] at hx
  subst hx
  have hsz : 1 < W.heap.size := by
    unfold World.var? at hvar
    rw [gKinds] at hvar
    simp only [Option.bind_some] at hvar
    split at hvar
    · rename_i hh
      exact (Array.getElem?_eq_some_iff.1 hh).1
    · cases hvar
  exact relAt_cells (fun off => fix0 off hsz) hc.1 hc.2 (fun j v hj => by
    have := World.var?_cell gKinds hvar j
    show W.cell? ⟨1, 0 + j, none⟩ = some v
    rw [Nat.zero_add, ← hj]
    simpa using this)
/-- The world of the witness: the settled one, kinds laid. -/
noncomputable def laidBlock : Obj := .cells ((Tryd.kindsT.flatMap fun k => [Value.int .i64 k.1, .int .i64 k.2.1, .int .i64 k.2.2.1, .int .i64 k.2.2.2]).toArray) 175 (0, 0)
noncomputable def laidWorld (os : Os) : World :=
  { World.holding Tryd.prog os ⟨#[laidBlock], #[], []⟩ with heap := (World.holding Tryd.prog os ⟨#[laidBlock], #[], []⟩).heap.modify 1 fun
      | .cells _ t frozen => .cells #[.slice (some ⟨(World.settled Tryd.prog os).heap.size, 0, none⟩) 8 8] t frozen
      | o => o }
theorem laid_met (os : Os) : laidMet Tryd.prog Rows.diagNamesRow.laid ((laidWorld os).forCall (fun _ _ => 0) ⟨#[], #[.int .u32 0, .int .u8 0], []⟩).memory :=
  laidMet_of_run' 8 (by kernel_rfl) (by kernel_rfl)
end Go.Proofs.YteekpkbmkibacaaDoor
