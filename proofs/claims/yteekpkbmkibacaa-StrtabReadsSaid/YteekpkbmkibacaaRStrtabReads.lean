/-
  PROVED HERE: the law StrtabReads of the package shuttlecocklaw02 (both readers of a table of texts answer alike on whatever bytes) returns true for every input. Its arguments read behind the call as they did.
-/
import Derived.Test.YteekpkbmkibacaaRows
import Derived.Test.YteekpkbmkibacaaREvRow
import Derived.WalkKit
import Derived.ProofKit
import Derived.OpenShut
import Derived.JoinedCond
import Derived.Test.YteekpkbmkibacaaREvDec
import Derived.Test.YteekpkbmkibacaaRTan
namespace Go.Proofs.Yteekpkbmkibacaa
set_option linter.unusedSimpArgs false
set_option linter.unusedVariables false
open Go Go.ChangeShapes Go.WideShapes Go.ChangeAt Go.RowKit Go.Proofs.Ev
namespace StrtabReads
theorem own : ownKnob Try.prog.godebug = none := by kernel_rfl
theorem laidOut : laidOutB Try.prog = true := by kernel_rfl
set_option maxRecDepth 100000 in
theorem contract (H : Type) (enc : TypeId × Value → H) (W : World) (base : Nat) (args : Array Value) (ds gs : List (DataW H)) (before : List MemPlace)
    (hval : ∀ (j : Nat) t v, Try.f4.params[j]? = some t → args[j]? = some v → Value.okWide Try.prog W .any base t v)
    (hW : DataW.Whole enc Try.prog Try.f4.params.toList Rows.strtabReadsSpec.vars false W args.toList ds gs before) :
    Calls Try.prog 4 args W fun e W' => ∃ v, e = .returned v ∧ Rows.strtabReadsSpec.post enc Try.prog Try.f4 false true false false W args v W' := by
  have hW' := hW
  obtain ⟨p, q, hA0, hV, rfl, hfz, hnd⟩ := hW
  have hA : DataW.TrodAll enc Try.prog W 0 (fun _ => true) true Try.f4.params.toList args.toList ds p := hA0
  rw [Try.params4] at hA hval
  obtain ⟨v0, vs0, d0, ds0, p0, q0, hargs, rfl, rfl, h0, r0⟩ := trodAll_cons hA
  obtain ⟨rfl, rfl, rfl⟩ := trodAll_nil r0
  obtain rfl : args = #[v0] := by cases args; simp_all
  obtain ⟨rfl, rfl⟩ := trodVars_none hV
  obtain ⟨c0, m0, k0, rfl⟩ := okWide_slice Try.underlying25 (hval 0 25 v0 rfl rfl)
  obtain ⟨n0, h0⟩ := h0
  obtain ⟨nl, l, g0, _, hlm⟩ := dec_slice (sz := 1) byteAV (fun _ => True) Try.underlying25 (e := 5) (by kernel_rfl) (by decide) (fun _ => rfl) (fun n _ cs x hx => by
    obtain ⟨m, c, hw⟩ := dec_int Try.underlying5 hx
    obtain ⟨b, rfl⟩ : ∃ b : UInt8, m = (b.toNat : Int) := by
      obtain ⟨h1, h2⟩ : 0 ≤ m ∧ m ≤ 255 := by simpa [Lit.wf, IntKind.min, IntKind.max, IntKind.signed, IntKind.bits] using hw
      exact ⟨UInt8.ofNat m.toNat, by rw [UInt8.toNat_ofNat_of_lt' (by show m.toNat < 256; omega)]; omega⟩
    exact ⟨b, c, trivial⟩) h0
  have hc : ACalls Try.prog [] 4 [rowAV 1 nl (l.map byteAV)] [] (fun v _ => v = .val (.bool true)) := Try.strtabReads_calls nl l hlm []
  refine (hc.row (W := W) (args := #[.slice c0 m0 k0]) (fun _ h => by cases h) ⟨g0.1.1, trivial⟩).mono ?_
  rintro e W' ⟨rfl, hb⟩
  exact ⟨_, rfl, post_true (tb := 4) laidOut hW' rfl (by kernel_rfl) Try.underlying4 (by rw [Try.params4]; intro t ht; simp at ht; rcases ht with rfl <;> exact ⟨by kernel_rfl, by decide +kernel⟩) rfl hb⟩
set_option maxRecDepth 100000 in
theorem lifted (os : Os) (started : os.Started) (H : Type) (enc : TypeId × Value → H) :
    ReturnsInHanded {} Try.checked os 4 .any (Rows.strtabReadsSpec.pre6 enc Try.prog Try.f4 Rows.strtabReadsRow.domain false) (Rows.strtabReadsSpec.post enc Try.prog Try.f4 false true false false) := by
  refine returnsInHanded_of_change (C := Try.checked) own started (by kernel_rfl) Try.func4
    (ChangeSpec.witness6 (enc := enc) (C := Try.checked) (s := Rows.strtabReadsSpec) false ⟨#[], #[.slice none 0 0], []⟩ 8 (by kernel_rfl) (by kernel_rfl) (by kernel_rfl) (by kernel_rfl)) ?_
  intro W base args ds gs before hval hW _ _
  exact contract H enc W base args ds gs before hval hW
theorem said : Rows.StrtabReadsSaid :=
  OpenClaim.holds_of_cond 4 Try.f4 rfl rfl rfl rfl rfl rfl rfl ⟨rfl, rfl, rfl, rfl, rfl⟩ rfl rfl rfl rfl rfl (by kernel_rfl) Try.func4 (by kernel_rfl)
    (of_decide_eq_true (by kernel_rfl)) (by unfold Func.isWrapper; first | (rw [if_pos (by decide +kernel)]; kernel_rfl) | (rw [if_neg (by decide +kernel)]; exact ⟨rfl, rfl⟩))
    (fun os started H enc _ F => lifted os started H enc)
end StrtabReads
theorem strtabReads_holds : Rows.StrtabReadsSaid := StrtabReads.said
#print axioms strtabReads_holds
end Go.Proofs.Yteekpkbmkibacaa

