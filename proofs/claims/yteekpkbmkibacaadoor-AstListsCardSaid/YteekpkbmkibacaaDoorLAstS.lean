import Derived.Test.YteekpkbmkibacaaDoorLAstR
/-! Programs: the document's answers, and what is the same. -/
namespace Go.Proofs.Tryd
set_option linter.unusedSimpArgs false
set_option linter.unusedVariables false
open Go Go.Proofs.Ev
namespace A
variable {Γ : List (Nat × List AV)}
set_option maxRecDepth 100000 in
set_option maxHeartbeats 1000000 in
theorem rnright_calls (n : NodeM) (hok : n.ok) : APure prog Γ 37 [n.enc] (bool n.right) := by
  refine APure.of func37 rfl fun σ => ?_
  simp only [ntmps37, List.length_cons, List.length_nil, Nat.reduceAdd, Nat.reduceSub, List.replicate_succ, List.replicate_zero, List.cons_append, List.nil_append]
  have hn0 : n.name.size ≤ 1000000000 := by have := hok.1; omega
  have hl : n.eqs.length ≤ maxLen := by rw [maxLen_eq]; have := hok.2.2.2.2.1; omega
  refine AW.regl false [1, 2] (by rfl) fun K1 hK1 => ?_ -- region 0
  simp only [go_sem, Nat.reduceAdd, Nat.reduceEqDiff, Nat.reduceLeDiff, true_and, ProgM.enc, NodeM.enc, EqM.enc, VarM.enc, enc_one, enc_len, enc_get43, enc_get47, eqc_get81, eqc_get128, List.length_map, List.length_cons, List.all_cons, one_row, len_row, ba_beqL, List.drop_succ_cons, List.drop_zero]
  refine hK1 _ _ ?_; try clear hK1 K1
  conv => enter [5]; simp only [setL_cons, setL_nil, List.set_cons_zero, List.set_cons_succ]
  refine AW.seq_k fun K2 hK2 => ?_
  refine AW.regcuts fun K3 hK3 => ?_ -- region 1
  refine AOps.cut false 10 15 (.val (.bool (!((nameM n.name)) || !((varsR n.ins))))) (by rfl) ?_ ?_
  · skip
    cases h8 : ((nameM n.name))
    · skip
      simp only [go_sem, Nat.reduceAdd, Nat.reduceEqDiff, Nat.reduceLeDiff, true_and, ProgM.enc, NodeM.enc, EqM.enc, VarM.enc, enc_one, enc_len, enc_get43, enc_get47, eqc_get81, eqc_get128, List.length_map, List.length_cons, List.all_cons, one_row, len_row, ba_beqL, List.drop_succ_cons, List.drop_zero, List.take_succ_cons, List.take_zero, h8]
      refine sC.of en44 ((rname_calls n.name (by first | assumption | omega)).on _).here (by rfl) ?_
      simp only [go_sem, Nat.reduceAdd, Nat.reduceEqDiff, Nat.reduceLeDiff, true_and, ProgM.enc, NodeM.enc, EqM.enc, VarM.enc, enc_one, enc_len, enc_get43, enc_get47, eqc_get81, eqc_get128, List.length_map, List.length_cons, List.all_cons, one_row, len_row, ba_beqL, List.drop_succ_cons, List.drop_zero, List.take_succ_cons, List.take_zero, h8]
      try simp [upd_at, h8, ProgM.enc, NodeM.enc, EqM.enc, VarM.enc, enc_one, enc_len, enc_get43, enc_get47, eqc_get81, eqc_get128, List.length_map, List.length_cons, List.all_cons, one_row, len_row, ba_beqL, List.drop_succ_cons, List.drop_zero]
    · skip
      simp only [go_sem, Nat.reduceAdd, Nat.reduceEqDiff, Nat.reduceLeDiff, true_and, ProgM.enc, NodeM.enc, EqM.enc, VarM.enc, enc_one, enc_len, enc_get43, enc_get47, eqc_get81, eqc_get128, List.length_map, List.length_cons, List.all_cons, one_row, len_row, ba_beqL, List.drop_succ_cons, List.drop_zero, List.take_succ_cons, List.take_zero, h8]
      refine sC.of en44 ((rname_calls n.name (by first | assumption | omega)).on _).here (by rfl) ?_
      simp only [go_sem, Nat.reduceAdd, Nat.reduceEqDiff, Nat.reduceLeDiff, true_and, ProgM.enc, NodeM.enc, EqM.enc, VarM.enc, enc_one, enc_len, enc_get43, enc_get47, eqc_get81, eqc_get128, List.length_map, List.length_cons, List.all_cons, one_row, len_row, ba_beqL, List.drop_succ_cons, List.drop_zero, List.take_succ_cons, List.take_zero, h8]
      refine sC.of en67 ((rvars_calls n.nlI n.ins (by first | exact hok.2.1 | exact hok.2.2.1 | exact hok.2.2.2.1)).on _).here (by rfl) ?_
      simp only [go_sem, Nat.reduceAdd, Nat.reduceEqDiff, Nat.reduceLeDiff, true_and, ProgM.enc, NodeM.enc, EqM.enc, VarM.enc, enc_one, enc_len, enc_get43, enc_get47, eqc_get81, eqc_get128, List.length_map, List.length_cons, List.all_cons, one_row, len_row, ba_beqL, List.drop_succ_cons, List.drop_zero, List.take_succ_cons, List.take_zero, h8]
      try simp [upd_at, h8, ProgM.enc, NodeM.enc, EqM.enc, VarM.enc, enc_one, enc_len, enc_get43, enc_get47, eqc_get81, eqc_get128, List.length_map, List.length_cons, List.all_cons, one_row, len_row, ba_beqL, List.drop_succ_cons, List.drop_zero]
  simp only [List.drop_succ_cons, List.drop_zero, List.set_cons_zero, List.set_cons_succ]
  refine AOps.cut false 6 21 (.val (.bool ((!((nameM n.name)) || !((varsR n.ins))) || !((varsR n.outs))))) (by rfl) ?_ ?_
  · skip
    cases h15 : ((!((nameM n.name)) || !((varsR n.ins))))
    · skip
      simp only [go_sem, Nat.reduceAdd, Nat.reduceEqDiff, Nat.reduceLeDiff, true_and, ProgM.enc, NodeM.enc, EqM.enc, VarM.enc, enc_one, enc_len, enc_get43, enc_get47, eqc_get81, eqc_get128, List.length_map, List.length_cons, List.all_cons, one_row, len_row, ba_beqL, List.drop_succ_cons, List.drop_zero, List.take_succ_cons, List.take_zero, h15]
      refine sC.of en67 ((rvars_calls n.nlO n.outs (by first | exact hok.2.1 | exact hok.2.2.1 | exact hok.2.2.2.1)).on _).here (by rfl) ?_
      simp only [go_sem, Nat.reduceAdd, Nat.reduceEqDiff, Nat.reduceLeDiff, true_and, ProgM.enc, NodeM.enc, EqM.enc, VarM.enc, enc_one, enc_len, enc_get43, enc_get47, eqc_get81, eqc_get128, List.length_map, List.length_cons, List.all_cons, one_row, len_row, ba_beqL, List.drop_succ_cons, List.drop_zero, List.take_succ_cons, List.take_zero, h15]
      try simp [upd_at, h15, ProgM.enc, NodeM.enc, EqM.enc, VarM.enc, enc_one, enc_len, enc_get43, enc_get47, eqc_get81, eqc_get128, List.length_map, List.length_cons, List.all_cons, one_row, len_row, ba_beqL, List.drop_succ_cons, List.drop_zero]
    · skip
      simp only [go_sem, Nat.reduceAdd, Nat.reduceEqDiff, Nat.reduceLeDiff, true_and, ProgM.enc, NodeM.enc, EqM.enc, VarM.enc, enc_one, enc_len, enc_get43, enc_get47, eqc_get81, eqc_get128, List.length_map, List.length_cons, List.all_cons, one_row, len_row, ba_beqL, List.drop_succ_cons, List.drop_zero, List.take_succ_cons, List.take_zero, h15]
      try simp [upd_at, h15, ProgM.enc, NodeM.enc, EqM.enc, VarM.enc, enc_one, enc_len, enc_get43, enc_get47, eqc_get81, eqc_get128, List.length_map, List.length_cons, List.all_cons, one_row, len_row, ba_beqL, List.drop_succ_cons, List.drop_zero]
  simp only [List.drop_succ_cons, List.drop_zero, List.set_cons_zero, List.set_cons_succ]
  refine AOps.cut false 6 27 (.val (.bool (((!((nameM n.name)) || !((varsR n.ins))) || !((varsR n.outs))) || (((n.outs.length : Nat) : Int) == 0)))) (by rfl) ?_ ?_
  · skip
    cases h21 : (((!((nameM n.name)) || !((varsR n.ins))) || !((varsR n.outs))))
    · skip
      simp only [go_sem, Nat.reduceAdd, Nat.reduceEqDiff, Nat.reduceLeDiff, true_and, ProgM.enc, NodeM.enc, EqM.enc, VarM.enc, enc_one, enc_len, enc_get43, enc_get47, eqc_get81, eqc_get128, List.length_map, List.length_cons, List.all_cons, one_row, len_row, ba_beqL, List.drop_succ_cons, List.drop_zero, List.take_succ_cons, List.take_zero, h21]
      try simp [upd_at, h21, ProgM.enc, NodeM.enc, EqM.enc, VarM.enc, enc_one, enc_len, enc_get43, enc_get47, eqc_get81, eqc_get128, List.length_map, List.length_cons, List.all_cons, one_row, len_row, ba_beqL, List.drop_succ_cons, List.drop_zero]
    · skip
      simp only [go_sem, Nat.reduceAdd, Nat.reduceEqDiff, Nat.reduceLeDiff, true_and, ProgM.enc, NodeM.enc, EqM.enc, VarM.enc, enc_one, enc_len, enc_get43, enc_get47, eqc_get81, eqc_get128, List.length_map, List.length_cons, List.all_cons, one_row, len_row, ba_beqL, List.drop_succ_cons, List.drop_zero, List.take_succ_cons, List.take_zero, h21]
      try simp [upd_at, h21, ProgM.enc, NodeM.enc, EqM.enc, VarM.enc, enc_one, enc_len, enc_get43, enc_get47, eqc_get81, eqc_get128, List.length_map, List.length_cons, List.all_cons, one_row, len_row, ba_beqL, List.drop_succ_cons, List.drop_zero]
  simp only [List.drop_succ_cons, List.drop_zero, List.set_cons_zero, List.set_cons_succ]
  refine AOps.cut false 6 33 (.val (.bool ((((!((nameM n.name)) || !((varsR n.ins))) || !((varsR n.outs))) || (((n.outs.length : Nat) : Int) == 0)) || !((varsR n.locals))))) (by rfl) ?_ ?_
  · skip
    cases h27 : ((((!((nameM n.name)) || !((varsR n.ins))) || !((varsR n.outs))) || (((n.outs.length : Nat) : Int) == 0)))
    · skip
      simp only [go_sem, Nat.reduceAdd, Nat.reduceEqDiff, Nat.reduceLeDiff, true_and, ProgM.enc, NodeM.enc, EqM.enc, VarM.enc, enc_one, enc_len, enc_get43, enc_get47, eqc_get81, eqc_get128, List.length_map, List.length_cons, List.all_cons, one_row, len_row, ba_beqL, List.drop_succ_cons, List.drop_zero, List.take_succ_cons, List.take_zero, h27]
      refine sC.of en67 ((rvars_calls n.nlL n.locals (by first | exact hok.2.1 | exact hok.2.2.1 | exact hok.2.2.2.1)).on _).here (by rfl) ?_
      simp only [go_sem, Nat.reduceAdd, Nat.reduceEqDiff, Nat.reduceLeDiff, true_and, ProgM.enc, NodeM.enc, EqM.enc, VarM.enc, enc_one, enc_len, enc_get43, enc_get47, eqc_get81, eqc_get128, List.length_map, List.length_cons, List.all_cons, one_row, len_row, ba_beqL, List.drop_succ_cons, List.drop_zero, List.take_succ_cons, List.take_zero, h27]
      try simp [upd_at, h27, ProgM.enc, NodeM.enc, EqM.enc, VarM.enc, enc_one, enc_len, enc_get43, enc_get47, eqc_get81, eqc_get128, List.length_map, List.length_cons, List.all_cons, one_row, len_row, ba_beqL, List.drop_succ_cons, List.drop_zero]
    · skip
      simp only [go_sem, Nat.reduceAdd, Nat.reduceEqDiff, Nat.reduceLeDiff, true_and, ProgM.enc, NodeM.enc, EqM.enc, VarM.enc, enc_one, enc_len, enc_get43, enc_get47, eqc_get81, eqc_get128, List.length_map, List.length_cons, List.all_cons, one_row, len_row, ba_beqL, List.drop_succ_cons, List.drop_zero, List.take_succ_cons, List.take_zero, h27]
      try simp [upd_at, h27, ProgM.enc, NodeM.enc, EqM.enc, VarM.enc, enc_one, enc_len, enc_get43, enc_get47, eqc_get81, eqc_get128, List.length_map, List.length_cons, List.all_cons, one_row, len_row, ba_beqL, List.drop_succ_cons, List.drop_zero]
  simp only [List.drop_succ_cons, List.drop_zero, List.set_cons_zero, List.set_cons_succ]
  refine AOps.cut false 6 39 (.val (.bool (((((!((nameM n.name)) || !((varsR n.ins))) || !((varsR n.outs))) || (((n.outs.length : Nat) : Int) == 0)) || !((varsR n.locals))) || (decide (((n.eqs.length : Nat) : Int) > 1000))))) (by rfl) ?_ ?_
  · skip
    cases h33 : (((((!((nameM n.name)) || !((varsR n.ins))) || !((varsR n.outs))) || (((n.outs.length : Nat) : Int) == 0)) || !((varsR n.locals))))
    · skip
      simp only [go_sem, Nat.reduceAdd, Nat.reduceEqDiff, Nat.reduceLeDiff, true_and, ProgM.enc, NodeM.enc, EqM.enc, VarM.enc, enc_one, enc_len, enc_get43, enc_get47, eqc_get81, eqc_get128, List.length_map, List.length_cons, List.all_cons, one_row, len_row, ba_beqL, List.drop_succ_cons, List.drop_zero, List.take_succ_cons, List.take_zero, h33]
      try simp [upd_at, h33, ProgM.enc, NodeM.enc, EqM.enc, VarM.enc, enc_one, enc_len, enc_get43, enc_get47, eqc_get81, eqc_get128, List.length_map, List.length_cons, List.all_cons, one_row, len_row, ba_beqL, List.drop_succ_cons, List.drop_zero]
    · skip
      simp only [go_sem, Nat.reduceAdd, Nat.reduceEqDiff, Nat.reduceLeDiff, true_and, ProgM.enc, NodeM.enc, EqM.enc, VarM.enc, enc_one, enc_len, enc_get43, enc_get47, eqc_get81, eqc_get128, List.length_map, List.length_cons, List.all_cons, one_row, len_row, ba_beqL, List.drop_succ_cons, List.drop_zero, List.take_succ_cons, List.take_zero, h33]
      try simp [upd_at, h33, ProgM.enc, NodeM.enc, EqM.enc, VarM.enc, enc_one, enc_len, enc_get43, enc_get47, eqc_get81, eqc_get128, List.length_map, List.length_cons, List.all_cons, one_row, len_row, ba_beqL, List.drop_succ_cons, List.drop_zero]
  simp only [List.drop_succ_cons, List.drop_zero, List.set_cons_zero, List.set_cons_succ]
  refine AOps.nil (hK3 _ _ ?_); try clear hK3 K3
  refine AW.cond rfl (fun hc39 => ?_) (fun hc39 => ?_)
  · skip
    refine AW.regl false [2] (by rfl) fun K4 hK4 => ?_ -- region 2
    simp only [go_sem, Nat.reduceAdd, Nat.reduceEqDiff, Nat.reduceLeDiff, true_and, ProgM.enc, NodeM.enc, EqM.enc, VarM.enc, enc_one, enc_len, enc_get43, enc_get47, eqc_get81, eqc_get128, List.length_map, List.length_cons, List.all_cons, one_row, len_row, ba_beqL, List.drop_succ_cons, List.drop_zero]
    refine hK4 _ _ ?_; try clear hK4 K4
    conv => enter [5]; simp only [setL_cons, setL_nil, List.set_cons_zero, List.set_cons_succ]
    refine AW.ret ⟨.inr rfl, _, rfl, by simp, ?_⟩ -- return 1
    refine frzB ?_
    unfold NodeM.right
    simp only [Bool.or_eq_true, Bool.not_eq_true', decide_eq_true_eq, beq_iff_eq] at hc39
    rcases hc39 with ((((h | h) | h) | h) | h) | h
    · simp [h]
    · simp [h]
    · simp [h]
    · have : ¬ (n.outs.length : Int) ≥ 1 := by omega
      simp [this]
    · simp [h]
    · have : ¬ (n.eqs.length : Int) ≤ 1000 := by omega
      simp [this]
  · skip
    have hpre := hc39
    refine AW.skip ?_
    refine hK2 _ _ ?_; try clear hK2 K2
    refine AW.seq_k fun K5 hK5 => ?_
    refine AW.regl false [3] (by rfl) fun K6 hK6 => ?_ -- region 3
    simp only [go_sem, Nat.reduceAdd, Nat.reduceEqDiff, Nat.reduceLeDiff, true_and, ProgM.enc, NodeM.enc, EqM.enc, VarM.enc, enc_one, enc_len, enc_get43, enc_get47, eqc_get81, eqc_get128, List.length_map, List.length_cons, List.all_cons, one_row, len_row, ba_beqL, List.drop_succ_cons, List.drop_zero]
    refine hK6 _ _ ?_; try clear hK6 K6
    conv => enter [5]; simp only [setL_cons, setL_nil, List.set_cons_zero, List.set_cons_succ]
    refine AW.block ?_
    refine AW.loop_dr (α := Nat) (fun i => [.any, (.ref σ.length 0), .any, (.val (.int .i64 ((i : Nat) : Int))), .any, .any, .any, .any, .any, .any, .any, .any, .any, .any, .any, .any, .any, .any, .any, .any, .any, .any, .any, .any, .any, .any, .any, .any, .any, .any, .any, .any, .any, .any, .any, .any, .any, .any, .any, .any, .any, .any, .any, .any, .any, .any, .any, .any, .any, .any, .any, .any, .any, .any, .any, .any, .any, .any, .any, .any, .any, .any, .any, .any, .any, .any, .any, .any, .any, .any, .any, .any, .any, .any, .any, .any, .any, .any, .any, .any, .any, .any]) (fun i => σ ++ [.cells (NodeM.enc n).cells]) (fun i => n.eqs.length - i) (fun i => i ≤ n.eqs.length ∧ (n.eqs.take i).any (fun q => !q.right) = false) 0 ?_ ?_ ?_
    · exact ⟨⟨Nat.zero_le _, rfl⟩, by simp [Wk], rfl⟩
    · exact fun y _ => ⟨by simp [belL, AV.bel], bel_app σ fun a ha => by
        simp only [List.mem_singleton] at ha
        subst ha
        exact node_obel n _⟩
    · rintro i ⟨hi, hit⟩
      refine AW.seq_k fun K7 hK7 => ?_
      refine AW.regl false [44] (by rfl) fun K8 hK8 => ?_ -- region 4
      simp only [go_sem, Nat.reduceAdd, Nat.reduceEqDiff, Nat.reduceLeDiff, true_and, ProgM.enc, NodeM.enc, EqM.enc, VarM.enc, enc_one, enc_len, enc_get43, enc_get47, eqc_get81, eqc_get128, List.length_map, List.length_cons, List.all_cons, one_row, len_row, ba_beqL, List.drop_succ_cons, List.drop_zero]
      refine hK8 _ _ ?_; try clear hK8 K8
      conv => enter [5]; simp only [setL_cons, setL_nil, List.set_cons_zero, List.set_cons_succ]
      refine AW.cond rfl (fun hc44 => ?_) (fun hc44 => ?_)
      · skip
        have hi1 : i < n.eqs.length := by simpa using hc44
        obtain ⟨u, hu0⟩ : ∃ z, z = n.eqs[i] := ⟨_, rfl⟩
        have hx : (n.eqs.map EqM.enc)[i]? = some (.agg (rowAV 1 u.nl (u.lhs.map str) :: u.rhs.enc.cells)) := by rw [hu0, List.getElem?_map, List.getElem?_eq_getElem hi1]; rfl
        have hu : u.ok := hok.2.2.2.2.2 u (by rw [hu0]; exact mem_at hi1)
        have hlu : u.lhs.length ≤ maxLen := by rw [maxLen_eq]; have := hu.1.1; omega
        refine AW.skip ?_
        refine hK7 _ _ ?_; try clear hK7 K7
        refine AW.seq_k fun K9 hK9 => ?_
        refine AW.block ?_
        refine AW.regl false [4] (by rfl) fun K10 hK10 => ?_ -- region 6
        simp only [go_sem, Nat.reduceAdd, Nat.reduceEqDiff, Nat.reduceLeDiff, true_and, ProgM.enc, NodeM.enc, EqM.enc, VarM.enc, enc_one, enc_len, enc_get43, enc_get47, eqc_get81, eqc_get128, List.length_map, List.length_cons, List.all_cons, one_row, len_row, ba_beqL, List.drop_succ_cons, List.drop_zero, at_row hx, List.cons_append]
        refine hK10 _ _ ?_; try clear hK10 K10
        conv => enter [5]; simp only [setL_cons, setL_nil, List.set_cons_zero, List.set_cons_succ, upd_none, upd_at]
        refine AW.seq_k fun K11 hK11 => ?_
        refine AW.regtf false 67 (.val (.bool (((decide (((u.lhs.length : Nat) : Int) < 1)) || (decide (((u.lhs.length : Nat) : Int) > 1000))) || !((exprR u.rhs))))) (by rfl) ?_ ?_ -- region 7
        · skip
          cases h55 : ((decide (((u.lhs.length : Nat) : Int) < 1)))
          · skip
            cases h60 : ((decide (((u.lhs.length : Nat) : Int) > 1000)))
            · skip
              simp only [go_sem, Nat.reduceAdd, Nat.reduceEqDiff, Nat.reduceLeDiff, true_and, ProgM.enc, NodeM.enc, EqM.enc, VarM.enc, enc_one, enc_len, enc_get43, enc_get47, eqc_get81, eqc_get128, List.length_map, List.length_cons, List.all_cons, one_row, len_row, ba_beqL, List.drop_succ_cons, List.drop_zero, exprR, Bool.not_and, h55, h60]
              refine sC.of en14 ((right_expr_calls u.rhs (by have := hu.2.1; omega) hu.2.2).on _).here (by rfl) ?_
              simp only [go_sem, Nat.reduceAdd, Nat.reduceEqDiff, Nat.reduceLeDiff, true_and, ProgM.enc, NodeM.enc, EqM.enc, VarM.enc, enc_one, enc_len, enc_get43, enc_get47, eqc_get81, eqc_get128, List.length_map, List.length_cons, List.all_cons, one_row, len_row, ba_beqL, List.drop_succ_cons, List.drop_zero, exprR, Bool.not_and, h55, h60]
              try simp [upd_at, h55, h60, ProgM.enc, NodeM.enc, EqM.enc, VarM.enc, enc_one, enc_len, enc_get43, enc_get47, eqc_get81, eqc_get128, List.length_map, List.length_cons, List.all_cons, one_row, len_row, ba_beqL, List.drop_succ_cons, List.drop_zero, exprR, Bool.not_and]
            · skip
              simp only [go_sem, Nat.reduceAdd, Nat.reduceEqDiff, Nat.reduceLeDiff, true_and, ProgM.enc, NodeM.enc, EqM.enc, VarM.enc, enc_one, enc_len, enc_get43, enc_get47, eqc_get81, eqc_get128, List.length_map, List.length_cons, List.all_cons, one_row, len_row, ba_beqL, List.drop_succ_cons, List.drop_zero, exprR, Bool.not_and, h55, h60]
              try simp [upd_at, h55, h60, ProgM.enc, NodeM.enc, EqM.enc, VarM.enc, enc_one, enc_len, enc_get43, enc_get47, eqc_get81, eqc_get128, List.length_map, List.length_cons, List.all_cons, one_row, len_row, ba_beqL, List.drop_succ_cons, List.drop_zero, exprR, Bool.not_and]
          · skip
            simp only [go_sem, Nat.reduceAdd, Nat.reduceEqDiff, Nat.reduceLeDiff, true_and, ProgM.enc, NodeM.enc, EqM.enc, VarM.enc, enc_one, enc_len, enc_get43, enc_get47, eqc_get81, eqc_get128, List.length_map, List.length_cons, List.all_cons, one_row, len_row, ba_beqL, List.drop_succ_cons, List.drop_zero, exprR, Bool.not_and, h55]
            try simp [upd_at, h55, ProgM.enc, NodeM.enc, EqM.enc, VarM.enc, enc_one, enc_len, enc_get43, enc_get47, eqc_get81, eqc_get128, List.length_map, List.length_cons, List.all_cons, one_row, len_row, ba_beqL, List.drop_succ_cons, List.drop_zero, exprR, Bool.not_and]
        conv => enter [5]; simp only [List.set_cons_zero, List.set_cons_succ]
        refine AW.cond rfl (fun hc67 => ?_) (fun hc67 => ?_)
        · skip
          refine AW.regl false [2] (by rfl) fun K13 hK13 => ?_ -- region 8
          simp only [go_sem, Nat.reduceAdd, Nat.reduceEqDiff, Nat.reduceLeDiff, true_and, ProgM.enc, NodeM.enc, EqM.enc, VarM.enc, enc_one, enc_len, enc_get43, enc_get47, eqc_get81, eqc_get128, List.length_map, List.length_cons, List.all_cons, one_row, len_row, ba_beqL, List.drop_succ_cons, List.drop_zero]
          refine hK13 _ _ ?_; try clear hK13 K13
          conv => enter [5]; simp only [setL_cons, setL_nil, List.set_cons_zero, List.set_cons_succ]
          refine AW.ret ⟨.inr rfl, _, rfl, by simp, ?_⟩ -- return 2
          refine frzB ?_
          unfold NodeM.right
          have hb : (!u.right) = true := by
            simp only [Bool.or_eq_true, decide_eq_true_eq, Bool.not_eq_true'] at hc67
            rcases hc67 with (h | h) | h
            · have : ¬ (u.lhs.length : Int) ≥ 1 := by omega
              simp [EqM.right, this]
            · have : ¬ (u.lhs.length : Int) ≤ 1000 := by omega
              simp [EqM.right, this]
            · simp [EqM.right, h]
          rw [any_at hi1 (p := fun q : EqM => !q.right) (by rw [← hu0]; exact hb)]
          simp
        · skip
          refine AW.skip ?_
          refine hK11 _ _ ?_; try clear hK11 K11
          refine AW.regl false [5] (by rfl) fun K14 hK14 => ?_ -- region 9
          simp only [go_sem, Nat.reduceAdd, Nat.reduceEqDiff, Nat.reduceLeDiff, true_and, ProgM.enc, NodeM.enc, EqM.enc, VarM.enc, enc_one, enc_len, enc_get43, enc_get47, eqc_get81, eqc_get128, List.length_map, List.length_cons, List.all_cons, one_row, len_row, ba_beqL, List.drop_succ_cons, List.drop_zero]
          refine hK14 _ _ ?_; try clear hK14 K14
          conv => enter [5]; simp only [setL_cons, setL_nil, List.set_cons_zero, List.set_cons_succ]
          refine AW.block ?_
          refine AW.loop_wk (α := Nat) (fun j => [.any, (.ref σ.length 0), .any, (.val (.int .i64 ((i : Nat) : Int))), (.ref (σ.length + 1) 0), (.val (.int .i64 ((j : Nat) : Int))), .any, .any, .any, .any, .any, .any, .any, .any, .any, .any, .any, .any, .any, .any, .any, .any, .any, .any, .any, .any, .any, .any, .any, .any, .any, .any, .any, .any, .any, .any, .any, .any, .any, .any, .any, .any, .any, .any, .any, .any, .any, .any, .any, .any, .any, .any, .any, .any, .any, .any, .any, .any, .any, .any, .any, .any, .any, .any, .any, .any, .any, .any, .any, .any, .any, .any, .any, .any, .any, .any, .any, .any, .any, .any, .any, .any]) (fun j => σ ++ [.cells (NodeM.enc n).cells, .cells (EqM.enc u).cells]) (fun j => u.lhs.length - j) (fun j => j ≤ u.lhs.length ∧ (u.lhs.take j).any (fun s => !nameM s) = false) 0 ?_ ?_
          · exact ⟨⟨Nat.zero_le _, rfl⟩, by simp [Wk], rfl⟩
          · rintro j ⟨hj, hjt⟩
            refine AW.seq_k fun K15 hK15 => ?_
            refine AW.regl false [72] (by rfl) fun K16 hK16 => ?_ -- region 10
            simp only [go_sem, Nat.reduceAdd, Nat.reduceEqDiff, Nat.reduceLeDiff, true_and, ProgM.enc, NodeM.enc, EqM.enc, VarM.enc, enc_one, enc_len, enc_get43, enc_get47, eqc_get81, eqc_get128, List.length_map, List.length_cons, List.all_cons, one_row, len_row, ba_beqL, List.drop_succ_cons, List.drop_zero]
            refine hK16 _ _ ?_; try clear hK16 K16
            conv => enter [5]; simp only [setL_cons, setL_nil, List.set_cons_zero, List.set_cons_succ]
            refine AW.cond rfl (fun hc72 => ?_) (fun hc72 => ?_)
            · skip
              have hj1 : j < u.lhs.length := by simpa using hc72
              obtain ⟨s, hs0⟩ : ∃ z, z = u.lhs[j] := ⟨_, rfl⟩
              have hy : (u.lhs.map str)[j]? = some (str s) := by rw [hs0, List.getElem?_map, List.getElem?_eq_getElem hj1]; rfl
              have hs1 : s.size ≤ 1000000000 := by have := hu.1.2 s (by rw [hs0]; exact mem_at hj1); omega
              refine AW.skip ?_
              refine hK15 _ _ ?_; try clear hK15 K15
              refine AW.seq_k fun K17 hK17 => ?_
              refine AW.block ?_
              refine AW.regl false [81] (by rfl) fun K18 hK18 => ?_ -- region 12
              simp only [go_sem, Nat.reduceAdd, Nat.reduceEqDiff, Nat.reduceLeDiff, true_and, ProgM.enc, NodeM.enc, EqM.enc, VarM.enc, enc_one, enc_len, enc_get43, enc_get47, eqc_get81, eqc_get128, List.length_map, List.length_cons, List.all_cons, one_row, len_row, ba_beqL, List.drop_succ_cons, List.drop_zero, at_row hy]
              refine sC.of en44 ((rname_calls s (by first | assumption | omega)).on _).here (by rfl) ?_
              simp only [go_sem, Nat.reduceAdd, Nat.reduceEqDiff, Nat.reduceLeDiff, true_and, ProgM.enc, NodeM.enc, EqM.enc, VarM.enc, enc_one, enc_len, enc_get43, enc_get47, eqc_get81, eqc_get128, List.length_map, List.length_cons, List.all_cons, one_row, len_row, ba_beqL, List.drop_succ_cons, List.drop_zero, at_row hy]
              refine hK18 _ _ ?_; try clear hK18 K18
              conv => enter [5]; simp only [setL_cons, setL_nil, List.set_cons_zero, List.set_cons_succ]
              refine AW.cond rfl (fun hc81 => ?_) (fun hc81 => ?_)
              · skip
                refine AW.regl false [2] (by rfl) fun K19 hK19 => ?_ -- region 13
                simp only [go_sem, Nat.reduceAdd, Nat.reduceEqDiff, Nat.reduceLeDiff, true_and, ProgM.enc, NodeM.enc, EqM.enc, VarM.enc, enc_one, enc_len, enc_get43, enc_get47, eqc_get81, eqc_get128, List.length_map, List.length_cons, List.all_cons, one_row, len_row, ba_beqL, List.drop_succ_cons, List.drop_zero]
                refine hK19 _ _ ?_; try clear hK19 K19
                conv => enter [5]; simp only [setL_cons, setL_nil, List.set_cons_zero, List.set_cons_succ]
                refine AW.ret ⟨.inr rfl, _, rfl, by simp, ?_⟩ -- return 3
                refine frzB ?_
                unfold NodeM.right
                have hb : (!u.right) = true := by simp [EqM.right, any_at hj1 (p := fun s => !nameM s) (by rw [← hs0]; exact hc81)]
                rw [any_at hi1 (p := fun q : EqM => !q.right) (by rw [← hu0]; exact hb)]
                simp
              · skip
                refine AW.skip ?_
                refine hK17 _ _ ?_; try clear hK17 K17
                refine AW.lastl false [5] (by rfl) fun K hK => ?_ -- region 11
                simp only [go_sem, Nat.reduceAdd, Nat.reduceEqDiff, Nat.reduceLeDiff, true_and, ProgM.enc, NodeM.enc, EqM.enc, VarM.enc, enc_one, enc_len, enc_get43, enc_get47, eqc_get81, eqc_get128, List.length_map, List.length_cons, List.all_cons, one_row, len_row, ba_beqL, List.drop_succ_cons, List.drop_zero]
                refine hK _ _ fun env' hw => ?_
                simp only [setL_cons, setL_nil, List.set_cons_zero, List.set_cons_succ] at hw
                refine ⟨j + 1, by omega, ⟨by omega, any_step hj1 hjt (by rw [← hs0]; exact hc81)⟩, ?_, rfl⟩
                refine hw.trans ?_
                simp [Wk, wrap_succ hj1 hlu]
                try omega
            · skip
              have hj1 : j = u.lhs.length := by
                have : ¬ j < u.lhs.length := by simpa using hc72
                omega
              have hall2 := any_end (by omega) hjt
              have hgood : (!u.right) = false := by
                simp only [EqM.right, hall2]
                simp only [Bool.or_eq_false_iff, decide_eq_false_iff_not, Bool.not_eq_false'] at hc67
                obtain ⟨⟨h1, h2⟩, h3⟩ := hc67
                simp [h3]
                omega
              refine AW.exit ?_
              refine hK9 _ _ ?_; try clear hK9 K9
              refine AW.lastl false [3] (by rfl) fun K hK => ?_ -- region 5
              simp only [go_sem, Nat.reduceAdd, Nat.reduceEqDiff, Nat.reduceLeDiff, true_and, ProgM.enc, NodeM.enc, EqM.enc, VarM.enc, enc_one, enc_len, enc_get43, enc_get47, eqc_get81, eqc_get128, List.length_map, List.length_cons, List.all_cons, one_row, len_row, ba_beqL, List.drop_succ_cons, List.drop_zero]
              refine hK _ _ fun env' hw => ?_
              simp only [setL_cons, setL_nil, List.set_cons_zero, List.set_cons_succ] at hw
              refine ⟨i + 1, by omega, ⟨by omega, any_step hi1 hit (by rw [← hu0]; exact hgood)⟩, ?_, by first | rfl | (simp [List.take_append, List.take_of_length_le]; done) | (simp [List.take_append, List.take_of_length_le]; repeat' constructor)⟩
              refine hw.trans ?_
              simp [Wk, wrap_succ hi1 hl]
              try omega
      · skip
        have hi1 : i = n.eqs.length := by
          have : ¬ i < n.eqs.length := by simpa using hc44
          omega
        have hall := any_end (by omega) hit
        refine AW.exit ?_
        refine hK5 _ _ ?_; try clear hK5 K5
        refine AW.regl false [2] (by rfl) fun K20 hK20 => ?_ -- region 14
        simp only [go_sem, Nat.reduceAdd, Nat.reduceEqDiff, Nat.reduceLeDiff, true_and, ProgM.enc, NodeM.enc, EqM.enc, VarM.enc, enc_one, enc_len, enc_get43, enc_get47, eqc_get81, eqc_get128, List.length_map, List.length_cons, List.all_cons, one_row, len_row, ba_beqL, List.drop_succ_cons, List.drop_zero]
        refine hK20 _ _ ?_; try clear hK20 K20
        conv => enter [5]; simp only [setL_cons, setL_nil, List.set_cons_zero, List.set_cons_succ]
        refine AW.ret ⟨.inr rfl, _, rfl, by simp, ?_⟩ -- return 4
        refine frzB ?_
        unfold NodeM.right
        rw [hall]
        simp only [Bool.or_eq_false_iff, decide_eq_false_iff_not, Bool.not_eq_false', beq_eq_false_iff_ne] at hpre
        obtain ⟨⟨⟨⟨⟨h1, h2⟩, h3⟩, h4⟩, h5⟩, h6⟩ := hpre
        simp [h1, h2, h3, h5]
        omega

set_option maxRecDepth 100000 in
theorem rpright_calls (p : ProgM) (hpk : p.ok) : APure prog Γ 35 [ProgM.enc p] (.val (.bool p.right)) := by
  refine APure.of func35 rfl fun σ => ?_
  simp only [ntmps35, List.length_cons, List.length_nil, Nat.reduceAdd, Nat.reduceSub, List.replicate_succ, List.replicate_zero, List.cons_append, List.nil_append]
  have hl : p.nodes.length ≤ maxLen := by rw [maxLen_eq]; have := hpk.1; omega
  refine AW.regl false [1, 2] (by rfl) fun K1 hK1 => ?_ -- region 0
  simp only [go_sem, Nat.reduceAdd, Nat.reduceEqDiff, Nat.reduceLeDiff, true_and, ProgM.enc, NodeM.enc, EqM.enc, VarM.enc, enc_one, enc_len, enc_get43, enc_get47, eqc_get81, eqc_get128, List.length_map, List.length_cons, List.all_cons, one_row, len_row, ba_beqL]
  refine hK1 _ _ ?_; try clear hK1 K1
  conv => enter [5]; simp only [setL_cons, setL_nil, List.set_cons_zero, List.set_cons_succ]
  refine AW.seq_k fun K2 hK2 => ?_
  refine AW.regl false [3] (by rfl) fun K3 hK3 => ?_ -- region 1
  simp only [go_sem, Nat.reduceAdd, Nat.reduceEqDiff, Nat.reduceLeDiff, true_and, ProgM.enc, NodeM.enc, EqM.enc, VarM.enc, enc_one, enc_len, enc_get43, enc_get47, eqc_get81, eqc_get128, List.length_map, List.length_cons, List.all_cons, one_row, len_row, ba_beqL]
  refine hK3 _ _ ?_; try clear hK3 K3
  conv => enter [5]; simp only [setL_cons, setL_nil, List.set_cons_zero, List.set_cons_succ]
  refine AW.block ?_
  refine AW.loop_wk (α := Nat) (fun i => [.any, (.ref σ.length 0), .any, (.val (.int .i64 ((i : Nat) : Int))), .any, .any, .any, .any, .any, .any, .any, .any, .any, .any, .any, .any, .any, .any, .any, .any, .any, .any]) (fun i => σ ++ [.cells (ProgM.enc p).cells]) (fun i => p.nodes.length - i) (fun i => i ≤ p.nodes.length ∧ (p.nodes.take i).any (fun n => !n.right) = false) 0 ?_ ?_
  · exact ⟨⟨Nat.zero_le _, rfl⟩, by simp [Wk], rfl⟩
  · rintro i ⟨hi, hit⟩
    refine AW.seq_k fun K4 hK4 => ?_
    refine AW.regl false [8] (by rfl) fun K5 hK5 => ?_ -- region 2
    simp only [go_sem, Nat.reduceAdd, Nat.reduceEqDiff, Nat.reduceLeDiff, true_and, ProgM.enc, NodeM.enc, EqM.enc, VarM.enc, enc_one, enc_len, enc_get43, enc_get47, eqc_get81, eqc_get128, List.length_map, List.length_cons, List.all_cons, one_row, len_row, ba_beqL]
    refine hK5 _ _ ?_; try clear hK5 K5
    conv => enter [5]; simp only [setL_cons, setL_nil, List.set_cons_zero, List.set_cons_succ]
    refine AW.cond rfl (fun hc8 => ?_) (fun hc8 => ?_)
    · skip
      have hi1 : i < p.nodes.length := by simpa using hc8
      obtain ⟨m, hm⟩ : ∃ z, z = p.nodes[i] := ⟨_, rfl⟩
      have hx : (p.nodes.map NodeM.enc)[i]? = some (NodeM.enc m) := by rw [hm, List.getElem?_map, List.getElem?_eq_getElem hi1]; rfl
      have hok : m.ok := hpk.2 m (by rw [hm]; exact mem_at hi1)
      refine AW.skip ?_
      refine hK4 _ _ ?_; try clear hK4 K4
      refine AW.seq_k fun K6 hK6 => ?_
      refine AW.block ?_
      refine AW.regl false [17] (by rfl) fun K7 hK7 => ?_ -- region 4
      simp only [go_sem, Nat.reduceAdd, Nat.reduceEqDiff, Nat.reduceLeDiff, true_and, ProgM.enc, NodeM.enc, EqM.enc, VarM.enc, enc_one, enc_len, enc_get43, enc_get47, eqc_get81, eqc_get128, List.length_map, List.length_cons, List.all_cons, one_row, len_row, ba_beqL, at_row hx]
      refine sC.of en37 ((rnright_calls m hok).on _).here (by rfl) ?_
      simp only [go_sem, Nat.reduceAdd, Nat.reduceEqDiff, Nat.reduceLeDiff, true_and, ProgM.enc, NodeM.enc, EqM.enc, VarM.enc, enc_one, enc_len, enc_get43, enc_get47, eqc_get81, eqc_get128, List.length_map, List.length_cons, List.all_cons, one_row, len_row, ba_beqL, at_row hx]
      refine hK7 _ _ ?_; try clear hK7 K7
      conv => enter [5]; simp only [setL_cons, setL_nil, List.set_cons_zero, List.set_cons_succ]
      refine AW.cond rfl (fun hc17 => ?_) (fun hc17 => ?_)
      · skip
        refine AW.regl false [2] (by rfl) fun K8 hK8 => ?_ -- region 5
        simp only [go_sem, Nat.reduceAdd, Nat.reduceEqDiff, Nat.reduceLeDiff, true_and, ProgM.enc, NodeM.enc, EqM.enc, VarM.enc, enc_one, enc_len, enc_get43, enc_get47, eqc_get81, eqc_get128, List.length_map, List.length_cons, List.all_cons, one_row, len_row, ba_beqL]
        refine hK8 _ _ ?_; try clear hK8 K8
        conv => enter [5]; simp only [setL_cons, setL_nil, List.set_cons_zero, List.set_cons_succ]
        refine AW.ret ⟨.inr rfl, _, rfl, by simp, ?_⟩ -- return 1
        refine frzB ?_
        unfold ProgM.right
        rw [any_at hi1 (p := fun n : NodeM => !n.right) (by rw [← hm]; exact hc17)]
        simp
      · skip
        refine AW.skip ?_
        refine hK6 _ _ ?_; try clear hK6 K6
        refine AW.lastl false [3] (by rfl) fun K hK => ?_ -- region 3
        simp only [go_sem, Nat.reduceAdd, Nat.reduceEqDiff, Nat.reduceLeDiff, true_and, ProgM.enc, NodeM.enc, EqM.enc, VarM.enc, enc_one, enc_len, enc_get43, enc_get47, eqc_get81, eqc_get128, List.length_map, List.length_cons, List.all_cons, one_row, len_row, ba_beqL]
        refine hK _ _ fun env' hw => ?_
        simp only [setL_cons, setL_nil, List.set_cons_zero, List.set_cons_succ] at hw
        refine ⟨i + 1, by omega, ⟨by omega, any_step hi1 hit (by rw [← hm]; exact hc17)⟩, ?_, rfl⟩
        refine hw.trans ?_
        simp [Wk, wrap_succ hi1 hl]
        try omega
    · skip
      have hi1 : i = p.nodes.length := by
        have : ¬ i < p.nodes.length := by simpa using hc8
        omega
      have hall := any_end (by omega) hit
      refine AW.exit ?_
      refine hK2 _ _ ?_; try clear hK2 K2
      refine AW.regl false [2] (by rfl) fun K9 hK9 => ?_ -- region 6
      simp only [go_sem, Nat.reduceAdd, Nat.reduceEqDiff, Nat.reduceLeDiff, true_and, ProgM.enc, NodeM.enc, EqM.enc, VarM.enc, enc_one, enc_len, enc_get43, enc_get47, eqc_get81, eqc_get128, List.length_map, List.length_cons, List.all_cons, one_row, len_row, ba_beqL]
      refine hK9 _ _ ?_; try clear hK9 K9
      conv => enter [5]; simp only [setL_cons, setL_nil, List.set_cons_zero, List.set_cons_succ]
      refine AW.ret ⟨.inr rfl, _, rfl, by simp, ?_⟩ -- return 2
      refine frzB ?_
      unfold ProgM.right
      rw [hall]
      simp









end A
end Go.Proofs.Tryd

