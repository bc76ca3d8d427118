import Derived.Test.YteekpkbmkibacaaDoorLAstS
/-! Programs: whether two are the same, as the document says. -/
namespace Go.Proofs.Tryd
set_option linter.unusedSimpArgs false
set_option linter.unusedVariables false
open Go Go.Proofs.Ev
namespace A
variable {Γ : List (Nat × List AV)}
def aw1 : E := .mk 0 0 1 ⟨#[]⟩ true []
def aw2 : E := .mk 4 11 0 ⟨#[]⟩ true [aw1, aw1]
theorem aw1_enc : aw1.enc = .agg [i64 0, i64 0, i64 1, str ⟨#[]⟩, .nilsl] := by rw [aw1, E.enc_mk]; rfl
theorem aw2_enc : aw2.enc = .agg [i64 4, i64 11, i64 0, str ⟨#[]⟩, .sl 5 [aw1.enc, aw1.enc]] := by rw [aw2, E.enc_mk]; rfl
theorem aw2_size : aw2.size < 9223372036854775808 := by decide
theorem aw2_fits : aw2.fits := by
  intro d hd
  simp only [aw2, aw1, E.pre, preL, List.append_nil, List.mem_cons, List.not_mem_nil, or_false, List.cons_append, List.nil_append] at hd
  rcases hd with rfl | rfl | rfl <;> exact Nat.zero_le _
theorem row2_45 (σ : Sto) : aRow prog false σ 45 2 [(0, .agg [i64 0, i64 0, i64 1, str ⟨#[]⟩, .nilsl]), (1, .agg [i64 0, i64 0, i64 1, str ⟨#[]⟩, .nilsl])] = some (.sl 5 [.agg [i64 0, i64 0, i64 1, str ⟨#[]⟩, .nilsl], .agg [i64 0, i64 0, i64 1, str ⟨#[]⟩, .nilsl]], σ) := aRow_sl (by kernel_rfl) (by decide) (row45 (by decide) (by decide) rfl (parts_of rfl)) σ
theorem aw_true : (aw2.depth : Int) == 2 && (aw2.size : Int) == 3 && (aw2.pre.all E.single && decide ((aw2.depth : Int) ≤ 200)) && !nameM ⟨#[112, 114, 101]⟩ && nameM ⟨#[80, 114, 101]⟩ := by kernel_rfl

set_option maxRecDepth 100000 in
theorem aawake_calls (hΓ : Words Γ) : APure prog Γ 23 [] (.val (.bool true)) := by
  refine APure.of func23 rfl fun σ => ?_
  simp only [ntmps23, List.length_cons, List.length_nil, Nat.reduceAdd, Nat.reduceSub, List.replicate_succ, List.replicate_zero, List.cons_append, List.nil_append]
  have hd23 := depth_calls (Γ := Γ) aw2 aw2_size
  have hs23 := size_calls (Γ := Γ) aw2 aw2_size
  have hr23 := right_calls hΓ aw2 aw2_size aw2_fits
  rw [aw2_enc, aw1_enc] at hd23 hs23 hr23
  refine AW.regl false [0] (by rfl) fun K1 hK1 => ?_ -- region 0
  simp only [go_sem, Nat.reduceAdd, Nat.reduceEqDiff, Nat.reduceLeDiff, true_and]
  refine hK1 _ _ ?_; try clear hK1 K1
  conv => enter [5]; simp only [setL_cons, setL_nil, List.set_cons_zero, List.set_cons_succ]
  refine AW.regl false [1] (by rfl) fun K2 hK2 => ?_ -- region 1
  simp only [go_sem, Nat.reduceAdd, Nat.reduceEqDiff, Nat.reduceLeDiff, true_and]
  refine hK2 _ _ ?_; try clear hK2 K2
  conv => enter [5]; simp only [setL_cons, setL_nil, List.set_cons_zero, List.set_cons_succ, upd_none, upd_at]
  refine AW.regl false [2] (by rfl) fun K3 hK3 => ?_ -- region 2
  simp only [go_sem, Nat.reduceAdd, Nat.reduceEqDiff, Nat.reduceLeDiff, true_and, row2_45]
  refine hK3 _ _ ?_; try clear hK3 K3
  conv => enter [5]; simp only [setL_cons, setL_nil, List.set_cons_zero, List.set_cons_succ, upd_none, upd_at]
  refine AW.regcuts fun K4 hK4 => ?_ -- region 3
  refine AOps.cut false 8 15 (.val (.bool ((((aw2.depth : Nat) : Int) == 2) && (((aw2.size : Nat) : Int) == 3)))) (by rfl) ?_ ?_
  · skip
    cases h10 : ((((aw2.depth : Nat) : Int) == 2))
    · skip
      simp only [go_sem, Nat.reduceAdd, Nat.reduceEqDiff, Nat.reduceLeDiff, true_and, List.take_succ_cons, List.take_zero, h10]
      refine sC.of en15 (hd23.on _).here (by rfl) ?_
      simp only [go_sem, Nat.reduceAdd, Nat.reduceEqDiff, Nat.reduceLeDiff, true_and, List.take_succ_cons, List.take_zero, h10]
      try simp [upd_at, h10]
    · skip
      simp only [go_sem, Nat.reduceAdd, Nat.reduceEqDiff, Nat.reduceLeDiff, true_and, List.take_succ_cons, List.take_zero, h10]
      refine sC.of en15 (hd23.on _).here (by rfl) ?_
      simp only [go_sem, Nat.reduceAdd, Nat.reduceEqDiff, Nat.reduceLeDiff, true_and, List.take_succ_cons, List.take_zero, h10]
      refine sC.of en17 (hs23.on _).here (by rfl) ?_
      simp only [go_sem, Nat.reduceAdd, Nat.reduceEqDiff, Nat.reduceLeDiff, true_and, List.take_succ_cons, List.take_zero, h10]
      try simp [upd_at, h10]
  simp only [List.drop_succ_cons, List.drop_zero, List.set_cons_zero, List.set_cons_succ]
  refine AOps.cut false 4 19 (.val (.bool (((((aw2.depth : Nat) : Int) == 2) && (((aw2.size : Nat) : Int) == 3)) && (aw2.pre.all E.single && decide ((aw2.depth : Int) ≤ 200))))) (by rfl) ?_ ?_
  · skip
    cases h15 : (((((aw2.depth : Nat) : Int) == 2) && (((aw2.size : Nat) : Int) == 3)))
    · skip
      simp only [go_sem, Nat.reduceAdd, Nat.reduceEqDiff, Nat.reduceLeDiff, true_and, List.take_succ_cons, List.take_zero, h15]
      try simp [upd_at, h15]
    · skip
      simp only [go_sem, Nat.reduceAdd, Nat.reduceEqDiff, Nat.reduceLeDiff, true_and, List.take_succ_cons, List.take_zero, h15]
      refine sC.of en13 (hr23.on _).here (by rfl) ?_
      simp only [go_sem, Nat.reduceAdd, Nat.reduceEqDiff, Nat.reduceLeDiff, true_and, List.take_succ_cons, List.take_zero, h15]
      try simp [upd_at, h15]
  simp only [List.drop_succ_cons, List.drop_zero, List.set_cons_zero, List.set_cons_succ]
  refine AOps.cut false 4 23 (.val (.bool ((((((aw2.depth : Nat) : Int) == 2) && (((aw2.size : Nat) : Int) == 3)) && (aw2.pre.all E.single && decide ((aw2.depth : Int) ≤ 200))) && !((nameM ⟨#[112, 114, 101]⟩))))) (by rfl) ?_ ?_
  · skip
    cases h19 : ((((((aw2.depth : Nat) : Int) == 2) && (((aw2.size : Nat) : Int) == 3)) && (aw2.pre.all E.single && decide ((aw2.depth : Int) ≤ 200))))
    · skip
      simp only [go_sem, Nat.reduceAdd, Nat.reduceEqDiff, Nat.reduceLeDiff, true_and, List.take_succ_cons, List.take_zero, h19]
      try simp [upd_at, h19]
    · skip
      simp only [go_sem, Nat.reduceAdd, Nat.reduceEqDiff, Nat.reduceLeDiff, true_and, List.take_succ_cons, List.take_zero, h19]
      refine sC.of en43 ((name_calls hΓ ⟨#[112, 114, 101]⟩ (by decide)).on _).here (by rfl) ?_
      simp only [go_sem, Nat.reduceAdd, Nat.reduceEqDiff, Nat.reduceLeDiff, true_and, List.take_succ_cons, List.take_zero, h19]
      try simp [upd_at, h19]
  simp only [List.drop_succ_cons, List.drop_zero, List.set_cons_zero, List.set_cons_succ]
  refine AOps.cut false 4 0 (.val (.bool (((((((aw2.depth : Nat) : Int) == 2) && (((aw2.size : Nat) : Int) == 3)) && (aw2.pre.all E.single && decide ((aw2.depth : Int) ≤ 200))) && !((nameM ⟨#[112, 114, 101]⟩))) && (nameM ⟨#[80, 114, 101]⟩)))) (by rfl) ?_ ?_
  · skip
    cases h23 : (((((((aw2.depth : Nat) : Int) == 2) && (((aw2.size : Nat) : Int) == 3)) && (aw2.pre.all E.single && decide ((aw2.depth : Int) ≤ 200))) && !((nameM ⟨#[112, 114, 101]⟩))))
    · skip
      simp only [go_sem, Nat.reduceAdd, Nat.reduceEqDiff, Nat.reduceLeDiff, true_and, List.take_succ_cons, List.take_zero, h23]
      try simp [upd_at, h23]
    · skip
      simp only [go_sem, Nat.reduceAdd, Nat.reduceEqDiff, Nat.reduceLeDiff, true_and, List.take_succ_cons, List.take_zero, h23]
      refine sC.of en43 ((name_calls hΓ ⟨#[80, 114, 101]⟩ (by decide)).on _).here (by rfl) ?_
      simp only [go_sem, Nat.reduceAdd, Nat.reduceEqDiff, Nat.reduceLeDiff, true_and, List.take_succ_cons, List.take_zero, h23]
      try simp [upd_at, h23]
  simp only [List.drop_succ_cons, List.drop_zero, List.set_cons_zero, List.set_cons_succ]
  refine AOps.nil (hK4 _ _ ?_); try clear hK4 K4
  refine AW.ret ⟨.inr rfl, _, rfl, by simp, ?_⟩ -- return 1
  refine frzB ?_
  exact aw_true
end A
end Go.Proofs.Tryd

