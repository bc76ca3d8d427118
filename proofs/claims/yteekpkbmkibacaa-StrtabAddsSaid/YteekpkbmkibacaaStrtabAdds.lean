/-
  PROVED HERE: the law StrtabAdds of the package shuttlecocklaw02 (the numbers, texts and bytes of a table of texts) returns true for every input. Its arguments read behind the call as they did.
-/
import Derived.Test.YteekpkbmkibacaaRows
import Derived.Test.YteekpkbmkibacaaEvRow
import Derived.WalkKit
import Derived.ProofKit
import Derived.OpenShut
import Derived.JoinedCond
import Derived.Test.YteekpkbmkibacaaEvDec
import Derived.Test.YteekpkbmkibacaaTai
namespace Go.Proofs.Yteekpkbmkibacaa
set_option linter.unusedSimpArgs false
set_option linter.unusedVariables false
open Go Go.ChangeShapes Go.WideShapes Go.ChangeAt Go.RowKit Go.Proofs.Ev
namespace StrtabAdds
theorem own : ownKnob Try.prog.godebug = none := by kernel_rfl
theorem laidOut : laidOutB Try.prog = true := by kernel_rfl
set_option maxRecDepth 100000 in
theorem contract (H : Type) (enc : TypeId × Value → H) (W : World) (base : Nat) (args : Array Value) (ds gs : List (DataW H)) (before : List MemPlace)
    (hval : ∀ (j : Nat) t v, Try.f3.params[j]? = some t → args[j]? = some v → Value.okWide Try.prog W .any base t v)
    (hW : DataW.Whole enc Try.prog Try.f3.params.toList Rows.strtabAddsSpec.vars false W args.toList ds gs before) :
    Calls Try.prog 3 args W fun e W' => ∃ v, e = .returned v ∧ Rows.strtabAddsSpec.post enc Try.prog Try.f3 false true false false W args v W' := by
  have hW' := hW
  obtain ⟨p, q, hA0, hV, rfl, hfz, hnd⟩ := hW
  have hA : DataW.TrodAll enc Try.prog W 0 (fun _ => true) true Try.f3.params.toList args.toList ds p := hA0
  rw [Try.params3] at hA hval
  obtain ⟨v0, vs0, d0, ds0, p0, q0, hargs, rfl, rfl, h0, r0⟩ := trodAll_cons hA
  obtain ⟨v1, vs1, d1, ds1, p1, q1, rfl, rfl, rfl, h1, r1⟩ := trodAll_cons r0
  obtain ⟨v2, vs2, d2, ds2, p2, q2, rfl, rfl, rfl, h2, r2⟩ := trodAll_cons r1
  obtain ⟨rfl, rfl, rfl⟩ := trodAll_nil r2
  obtain rfl : args = #[v0, v1, v2] := by cases args; simp_all
  obtain ⟨rfl, rfl⟩ := trodVars_none hV
  obtain ⟨c0, m0, k0, rfl⟩ := okWide_slice Try.underlying22 (hval 0 22 v0 rfl rfl)
  obtain ⟨lg, rfl⟩ := okWide_int Try.underlying3 (hval 1 3 v1 rfl rfl)
  obtain ⟨ix, rfl⟩ := okWide_int Try.underlying3 (hval 2 3 v2 rfl rfl)
  obtain ⟨n0, h0⟩ := h0
  obtain ⟨nl, l, g0, _, hlm⟩ := dec_slice (sz := 1) Try.str (fun _ => True) Try.underlying22 (e := 9) (by kernel_rfl) (by decide) (fun _ => rfl) (fun n _ cs x hx => by obtain ⟨s, c, _⟩ := dec_str Try.underlying9 hx; exact ⟨s, c, trivial⟩) h0
  have hc : ACalls Try.prog [] 3 [rowAV 1 nl (l.map Try.str), Try.i64 lg, Try.i64 ix] [] (fun v _ => v = .val (.bool true)) := Try.strtabAdds_calls nl l lg ix hlm []
  refine (hc.row (W := W) (args := #[.slice c0 m0 k0, .int .i64 lg, .int .i64 ix]) (fun _ h => by cases h) ⟨g0.1.1, rfl, rfl, trivial⟩).mono ?_
  rintro e W' ⟨rfl, hb⟩
  exact ⟨_, rfl, post_true (tb := 4) laidOut hW' rfl (by kernel_rfl) Try.underlying4 (by rw [Try.params3]; intro t ht; simp at ht; rcases ht with rfl | rfl <;> exact ⟨by kernel_rfl, by decide +kernel⟩) rfl hb⟩
set_option maxRecDepth 100000 in
theorem lifted (os : Os) (started : os.Started) (H : Type) (enc : TypeId × Value → H) :
    ReturnsInHanded {} Try.checked os 3 .any (Rows.strtabAddsSpec.pre6 enc Try.prog Try.f3 Rows.strtabAddsRow.domain false) (Rows.strtabAddsSpec.post enc Try.prog Try.f3 false true false false) := by
  refine returnsInHanded_of_change (C := Try.checked) own started (by kernel_rfl) Try.func3
    (ChangeSpec.witness6 (enc := enc) (C := Try.checked) (s := Rows.strtabAddsSpec) false ⟨#[], #[.slice none 0 0, .int .i64 0, .int .i64 0], []⟩ 8 (by kernel_rfl) (by kernel_rfl) (by kernel_rfl) (by kernel_rfl)) ?_
  intro W base args ds gs before hval hW _ _
  exact contract H enc W base args ds gs before hval hW
theorem said : Rows.StrtabAddsSaid :=
  OpenClaim.holds_of_cond 3 Try.f3 rfl rfl rfl rfl rfl rfl rfl ⟨rfl, rfl, rfl, rfl, rfl⟩ rfl rfl rfl rfl rfl (by kernel_rfl) Try.func3 (by kernel_rfl)
    (of_decide_eq_true (by kernel_rfl)) (by unfold Func.isWrapper; first | (rw [if_pos (by decide +kernel)]; kernel_rfl) | (rw [if_neg (by decide +kernel)]; exact ⟨rfl, rfl⟩))
    (fun os started H enc _ F => lifted os started H enc)
end StrtabAdds
theorem strtabAdds_holds : Rows.StrtabAddsSaid := StrtabAdds.said
#print axioms strtabAdds_holds
end Go.Proofs.Yteekpkbmkibacaa
