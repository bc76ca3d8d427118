/-
  PROVED HERE: the law GridApart of the package shuttlecocklaw14 (no two blocks on one place, each to the right of those on which it hangs) returns true for every input. Its arguments read behind the call as they did.
  Conditions: those of the given row and its card (package variables start as the program's text lays them), none besides.
-/
import Derived.Test.YteekpkbmkibacaaDoorRow
import Derived.Test.YteekpkbmkibacaaDoorDec
import Derived.Test.YteekpkbmkibacaaDoorPkGaB
namespace Go.Proofs.YteekpkbmkibacaaDoor
set_option linter.unusedSimpArgs false
set_option linter.unusedVariables false
open Go Go.ChangeShapes Go.WideShapes Go.ChangeAt Go.RowKit Go.Proofs.Ev
namespace GridApart
set_option maxRecDepth 100000 in
theorem contract (H : Type) (enc : TypeId × Value → H) (W : World) (base : Nat) (args : Array Value) (ds gs : List (DataW H)) (before : List MemPlace)
    (hval : ∀ (j : Nat) t v, Tryd.f7.params[j]? = some t → args[j]? = some v → Value.okWide Tryd.prog W .any base t v)
    (hW : DataW.Whole enc Tryd.prog Tryd.f7.params.toList Rows.gridApartSpec.vars false W args.toList ds gs before) (hL : laidMetH Tryd.prog Rows.gridApartRow.laid W) :
    Calls Tryd.prog 7 args W fun e W' => ∃ v, e = .returned v ∧ Rows.gridApartSpec.post enc Tryd.prog Tryd.f7 false true false false W args v W' := by
  have hW' := hW
  obtain ⟨p, q, hA0, hV, rfl, hfz, hnd⟩ := hW
  have hA : DataW.TrodAll enc Tryd.prog W 0 (fun _ => true) true Tryd.f7.params.toList args.toList ds p := hA0
  rw [Tryd.params7] at hA hval
  obtain ⟨v0, vs0, d0, ds0, p0, q0, hargs, rfl, rfl, h0, r0⟩ := trodAll_cons hA
  obtain ⟨rfl, rfl, rfl⟩ := trodAll_nil r0
  obtain rfl : args = #[v0] := by cases args; simp_all
  obtain ⟨rfl, rfl⟩ := trodVars_none hV
  obtain ⟨c0, rfl⟩ := arg_agg Tryd.underlying61 (hval 0 61 v0 rfl rfl)
  obtain ⟨n0, h0⟩ := h0
  obtain ⟨f, g0, fok, ffit⟩ := Tryd.dec_file h0
  have hc : ACalls Tryd.prog Tryd.GK 7 [f.enc] [] (fun v _ => v = .val (.bool true)) := (Tryd.Gr.gridApart_calls f fok ffit []).mono (fun _ _ h => h.2)
  refine (hc.row (W := W) (args := #[.agg c0]) (wkinds W hL) ⟨rel_agg g0, trivial⟩).mono ?_
  rintro e W' ⟨rfl, hb⟩
  exact ⟨_, rfl, post_true (tb := 4) laidOut hW' rfl (by kernel_rfl) Tryd.underlying4 (by rw [Tryd.params7]; intro t ht; simp at ht; rcases ht with rfl <;> exact ⟨by kernel_rfl, by decide +kernel⟩) rfl hb⟩
theorem laid_met (os : Os) : laidMet Tryd.prog Rows.gridApartRow.laid ((laidWorld os).forCall (fun _ _ => 0) ⟨#[], #[.agg #[.slice none 0 0]], []⟩).memory :=
  laidMet_of_run' 8 (by kernel_rfl) (by kernel_rfl)
theorem reads (os : Os) {H : Type} (enc : TypeId × Value → H) : ∃ places, DataW.whole enc Tryd.prog ((laidWorld os).forCall (fun _ _ => 0) ⟨#[], #[.agg #[.slice none 0 0]], []⟩).memory Tryd.f7.params.toList Rows.gridApartSpec.vars false (#[.agg #[.slice none 0 0]] : Array Value).toList 8 = some ([.agg [.nil]], [], places) :=
  ⟨[], by kernel_rfl⟩
set_option maxRecDepth 100000 in
theorem lifted (os : Os) (started : os.Started) (H : Type) (enc : TypeId × Value → H) (F : Stop.Interp) :
    ReturnsInHanded {} Tryd.checked os 7 .any ((OpenSpec.ofChange Rows.gridApartSpec).preRow enc Tryd.prog Tryd.f7 Rows.gridApartRow.domain false Rows.gridApartRow.laid) (((OpenSpec.ofChange Rows.gridApartSpec).at F).post enc Tryd.prog Tryd.f7 false true false false) := by
  obtain ⟨places, hx⟩ := reads os enc
  refine returnsInHanded_of_row (C := Tryd.checked) (s := OpenSpec.ofChange Rows.gridApartSpec) own started (by kernel_rfl) Tryd.func7
    (witness_row_atRef (enc := enc) (C := Tryd.checked) false (laidWorld os) #[.agg #[.slice none 0 0]] rfl (by kernel_rfl) (by kernel_rfl) (by kernel_rfl)
      (OpenSpec.preRow_of_cond 8 hx (by kernel_rfl) (fun k hk => by cases hk) (by kernel_rfl) (laid_met os))) ?_
  intro W base args ds gs before hval hW _ _ _ hL _ _
  exact contract H enc W base args ds gs before hval hW hL
theorem said : Rows.GridApartSaid :=
  OpenClaim.holds_of_cond 7 Tryd.f7 rfl rfl rfl rfl rfl rfl rfl ⟨rfl, rfl, rfl, rfl, rfl⟩ rfl rfl rfl rfl rfl (by kernel_rfl) Tryd.func7 (by kernel_rfl)
    (of_decide_eq_true (by kernel_rfl)) (by unfold Func.isWrapper; first | (rw [if_pos (by decide +kernel)]; kernel_rfl) | (rw [if_neg (by decide +kernel)]; exact ⟨rfl, rfl⟩))
    (fun os started H enc _ F => by rw [OpenClaim.pre_eq_preRow]; exact lifted os started H enc F)
theorem plain (f : FuncId) (fn : Func) (hf : Tryd.pinned.checked.prog.funcNamed "shuttlecock/shuttlecocklaw14.GridApart" = some f) (hfn : Tryd.pinned.checked.prog.funcs[f]? = some fn) :
    false = Tryd.pinned.checked.prog.looks [] ∧ ∀ (j : Nat) t, fn.params[j]? = some t → Tryd.pinned.checked.prog.wantsStandIn t = false := by
  obtain rfl : f = 7 := Option.some.inj ((show Tryd.prog.funcNamed "shuttlecock/shuttlecocklaw14.GridApart" = some 7 by kernel_rfl).symm.trans hf) |>.symm
  obtain rfl : fn = Tryd.f7 := (Option.some.inj (Tryd.func7.symm.trans hfn)).symm
  refine ⟨by kernel_rfl, fun j t ht => ?_⟩
  rw [Tryd.params7] at ht
  have := Array.mem_of_getElem? ht
  simp at this
  rcases this with rfl
  · exact (show Tryd.prog.wantsStandIn 61 = false by kernel_rfl)
set_option maxRecDepth 100000 in
theorem card : Rows.GridApartCardSaid :=
  Claim7.holds_tied_plain_at .later [] _ _ _ _ said (fun _ h => by cases h) (by kernel_rfl) (fun _ h => by cases h) gridApart_row_tie rfl ⟨rfl, rfl⟩ (by kernel_rfl) rfl plain (by kernel_rfl)
end GridApart
theorem gridApart_holds : Rows.GridApartCardSaid := GridApart.card
#print axioms gridApart_holds
end Go.Proofs.YteekpkbmkibacaaDoor
