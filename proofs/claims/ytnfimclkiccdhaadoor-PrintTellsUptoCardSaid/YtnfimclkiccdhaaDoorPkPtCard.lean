/-
  PROVED HERE: the law PrintTells of the package shuttlecocklaw06 (the text of any program, and of any expression, or that it is not right) returns true for every input of the second form. Its arguments read behind the call as they did.
  Conditions: those of the given row and its card (package variables start as the program's text lays them), and that what is read is of bulk at most 1048576 (the second form).
-/
import Derived.Test.YtnfimclkiccdhaaDoorPkPtC
import Derived.Test.YtnfimclkiccdhaaDoorPkPtC
import Derived.Test.YtnfimclkiccdhaaDoorPkPtD
namespace Go.Proofs.YtnfimclkiccdhaaDoor
set_option linter.unusedSimpArgs false
set_option linter.unusedVariables false
open Go Go.ChangeShapes Go.WideShapes Go.ChangeAt Go.RowKit Go.Proofs.Ev
namespace PrintTells
open Lr
theorem bulkAll {H : Type} : ∀ ds : List (DataW H), Rows.uptoBulkAll ds = (ds.map Rows.uptoBulk).sum
  | [] => by simp [Rows.uptoBulkAll]
  | d :: ds => by simp only [Rows.uptoBulkAll, List.map_cons, List.sum_cons, bulkAll ds]
/-- A bulk that is told. -/
theorem bulk {H : Type} : Bulk (Rows.uptoBulk (H := H)) := {
  slice := fun es sp => by simp only [Rows.uptoBulk, bulkAll]; omega
  pos := fun d => by
    cases d with
    | lit l => cases l <;> simp only [Rows.uptoBulk] <;> omega
    | _ => simp only [Rows.uptoBulk]; omega
  agg := fun ps => by simp only [Rows.uptoBulk, bulkAll]; omega
  str := fun bs => by simp only [Rows.uptoBulk]; omega }
set_option maxRecDepth 100000 in
theorem contract (H : Type) (enc : TypeId × Value → H) (W : World) (base : Nat) (args : Array Value) (ds gs : List (DataW H)) (before : List MemPlace)
    (hval : ∀ (j : Nat) t v, Tryd.f3.params[j]? = some t → args[j]? = some v → Value.okWide Tryd.prog W .any base t v)
    (hW : DataW.Whole enc Tryd.prog Tryd.f3.params.toList Rows.printTellsSpec.vars false W args.toList ds gs before) (hcond : Rows.uptoSmall H (ds ++ gs) = true) (hL : laidMetH Tryd.prog Rows.printTellsUptoRow.laid W) :
    Calls Tryd.prog 3 args W fun e W' => ∃ v, e = .returned v ∧ Rows.printTellsSpec.post enc Tryd.prog Tryd.f3 false true false false W args v W' := by
  have hW' := hW
  obtain ⟨p, q, hA0, hV, rfl, hfz, hnd⟩ := hW
  have hA : DataW.TrodAll enc Tryd.prog W 0 (fun _ => true) true Tryd.f3.params.toList args.toList ds p := hA0
  rw [Tryd.params3] at hA hval
  obtain ⟨v0, vs0, d0, ds0, p0, q0, hargs, rfl, rfl, h0, r0⟩ := trodAll_cons hA
  obtain ⟨v1, vs1, d1, ds1, p1, q1, rfl, rfl, rfl, h1, r1⟩ := trodAll_cons r0
  obtain ⟨rfl, rfl, rfl⟩ := trodAll_nil r1
  obtain rfl : args = #[v0, v1] := by cases args; simp_all
  obtain ⟨rfl, rfl⟩ := trodVars_none hV
  obtain ⟨c0, rfl⟩ := arg_agg Tryd.underlying24 (hval 0 24 v0 rfl rfl)
  obtain ⟨c1, rfl⟩ := arg_agg Tryd.underlying27 (hval 1 27 v1 rfl rfl)
  obtain ⟨n0, h0⟩ := h0
  obtain ⟨n1, h1⟩ := h1
  obtain ⟨m, g0, b0⟩ := Tryd.A.dec_prog bulk h0
  obtain ⟨e, g1, b1⟩ := Tryd.A.dec_expr bulk _ _ _ h1
  have hsum : Rows.uptoBulkAll [d0, d1] ≤ 1048576 := of_decide_eq_true hcond
  simp only [Rows.uptoBulkAll] at hsum
  simp only at b0 b1
  have hb1 := b1.1
  obtain ⟨ks, hg, hΓ⟩ := wall W hL
  have hc : ACalls Tryd.prog (Tryd.Pr.GP (wv ks)) 3 [m.enc, e.enc] [] (fun v _ => v = .val (.bool true)) := (Tryd.Pr.printTells_calls hΓ m e (b0.ok (by omega)) (Nat.le_trans b0.2 (by omega)) (by omega) (b1.fits (by omega)) (fun n hn q hq d hd => ((b0.1.2 n hn).2.2.2.2.1.2 q hq).2.2 d hd |>.2) (fun d hd => (b1.2 d hd).2) []).mono (fun _ _ h => h.2)
  have k1 := rel_agg g1
  rw [Tryd.A.enc_agg] at k1
  refine (hc.row (W := W) (args := #[.agg c0, .agg c1]) (hg) ⟨rel_agg g0, k1, trivial⟩).mono ?_
  rintro e W' ⟨rfl, hb⟩
  exact ⟨_, rfl, post_true (tb := 4) laidOut hW' rfl (by kernel_rfl) Tryd.underlying4 (by rw [Tryd.params3]; intro t ht; simp at ht; rcases ht with rfl | rfl <;> exact ⟨by kernel_rfl, by decide +kernel⟩) rfl hb⟩
theorem laid_met (os : Os) : laidMet Tryd.prog Rows.printTellsUptoRow.laid ((laidWorld os).forCall (fun _ _ => 0) ⟨#[], #[.agg #[.slice none 0 0], .agg #[.int .i64 0, .int .i64 0, .int .i64 0, .string ⟨#[]⟩, .slice none 0 0]], []⟩).memory :=
  laidMet_of_run' 8 (by kernel_rfl) (by kernel_rfl)
theorem reads (os : Os) {H : Type} (enc : TypeId × Value → H) : ∃ places, DataW.whole enc Tryd.prog ((laidWorld os).forCall (fun _ _ => 0) ⟨#[], #[.agg #[.slice none 0 0], .agg #[.int .i64 0, .int .i64 0, .int .i64 0, .string ⟨#[]⟩, .slice none 0 0]], []⟩).memory Tryd.f3.params.toList Rows.printTellsSpec.vars false (#[.agg #[.slice none 0 0], .agg #[.int .i64 0, .int .i64 0, .int .i64 0, .string ⟨#[]⟩, .slice none 0 0]] : Array Value).toList 8 = some ([.agg [.nil], .agg [.lit (.int .i64 0), .lit (.int .i64 0), .lit (.int .i64 0), .lit (.string []), .nil]], [], places) :=
  ⟨[], by kernel_rfl⟩
set_option maxRecDepth 100000 in
theorem lifted (os : Os) (started : os.Started) (H : Type) (enc : TypeId × Value → H) (F : Stop.Interp) :
    ReturnsInHanded {} Tryd.checked os 3 .any ((Rows.OpenSpec.upto Rows.printTellsSpec).preRow enc Tryd.prog Tryd.f3 Rows.printTellsUptoRow.domain false Rows.printTellsUptoRow.laid) (((Rows.OpenSpec.upto Rows.printTellsSpec).at F).post enc Tryd.prog Tryd.f3 false true false false) := by
  obtain ⟨places, hx⟩ := reads os enc
  refine returnsInHanded_of_row (C := Tryd.checked) (s := Rows.OpenSpec.upto Rows.printTellsSpec) own started (by kernel_rfl) Tryd.func3
    (witness_row_atRef (enc := enc) (C := Tryd.checked) false (laidWorld os) #[.agg #[.slice none 0 0], .agg #[.int .i64 0, .int .i64 0, .int .i64 0, .string ⟨#[]⟩, .slice none 0 0]] rfl (by kernel_rfl) (by kernel_rfl) (by kernel_rfl)
      (OpenSpec.preRow_of_cond 8 hx (by kernel_rfl) (fun k hk => by cases hk; kernel_rfl) (by kernel_rfl) (laid_met os))) ?_
  intro W base args ds gs before hval hW _ hcond _ hL _ _
  exact contract H enc W base args ds gs before hval hW (hcond _ rfl) hL
theorem said : Rows.PrintTellsUptoSaid :=
  OpenClaim.holds_of_cond 3 Tryd.f3 rfl rfl rfl rfl rfl rfl rfl ⟨rfl, rfl, rfl, rfl, rfl⟩ rfl rfl rfl rfl rfl (by kernel_rfl) Tryd.func3 (by kernel_rfl)
    (of_decide_eq_true (by kernel_rfl)) (by unfold Func.isWrapper; first | (rw [if_pos (by decide +kernel)]; kernel_rfl) | (rw [if_neg (by decide +kernel)]; exact ⟨rfl, rfl⟩))
    (fun os started H enc _ F => by rw [OpenClaim.pre_eq_preRow]; exact lifted os started H enc F)
theorem plain (f : FuncId) (fn : Func) (hf : Tryd.pinned.checked.prog.funcNamed "shuttlecock/shuttlecocklaw06.PrintTells" = some f) (hfn : Tryd.pinned.checked.prog.funcs[f]? = some fn) :
    false = Tryd.pinned.checked.prog.looks [] ∧ ∀ (j : Nat) t, fn.params[j]? = some t → Tryd.pinned.checked.prog.wantsStandIn t = false := by
  obtain rfl : f = 3 := Option.some.inj ((show Tryd.prog.funcNamed "shuttlecock/shuttlecocklaw06.PrintTells" = some 3 by kernel_rfl).symm.trans hf) |>.symm
  obtain rfl : fn = Tryd.f3 := (Option.some.inj (Tryd.func3.symm.trans hfn)).symm
  refine ⟨by kernel_rfl, fun j t ht => ?_⟩
  rw [Tryd.params3] at ht
  have := Array.mem_of_getElem? ht
  simp at this
  rcases this with rfl | rfl
  · exact (show Tryd.prog.wantsStandIn 24 = false by kernel_rfl)
  · exact (show Tryd.prog.wantsStandIn 27 = false by kernel_rfl)
set_option maxRecDepth 100000 in
theorem card : Rows.PrintTellsUptoCardSaid :=
  Claim7.holds_tied_plain_at .later [] _ _ _ _ said (fun _ h => by cases h) (by kernel_rfl) (fun _ h => by cases h) printTellsUpto_row_tie rfl ⟨rfl, rfl⟩ (by kernel_rfl) rfl plain (by kernel_rfl)
end PrintTells
theorem printTellsUpto_holds : Rows.PrintTellsUptoCardSaid := PrintTells.card
#print axioms printTellsUpto_holds
end Go.Proofs.YtnfimclkiccdhaaDoor

