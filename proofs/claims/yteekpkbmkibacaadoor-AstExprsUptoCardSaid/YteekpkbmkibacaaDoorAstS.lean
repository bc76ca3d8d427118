import Derived.Test.YteekpkbmkibacaaDoorAstR
/-! Programs: the document's answers, and what is the same. -/
namespace Go.Proofs.Tryd
set_option linter.unusedSimpArgs false
set_option linter.unusedVariables false
open Go Go.Proofs.Ev
namespace A
variable {Γ : List (Nat × List AV)}
def totE (l : List EqM) : Nat := (l.map fun q => q.rhs.size).sum
def totN (l : List NodeM) : Nat := (l.map fun n => totE n.eqs).sum
theorem sum_take {α : Type} (f : α → Nat) {l : List α} {i : Nat} (h : i < l.length) : ((l.take (i + 1)).map f).sum = ((l.take i).map f).sum + f l[i] := by
  rw [List.take_succ_eq_append_getElem h, List.map_append, List.sum_append]
  simp
theorem sum_le {α : Type} (f : α → Nat) (l : List α) (i : Nat) : ((l.take i).map f).sum ≤ (l.map f).sum := by
  have := congrArg (fun m => (m.map f).sum) (List.take_append_drop i l)
  simp only [List.map_append, List.sum_append] at this
  omega
theorem mem_sum {α : Type} (f : α → Nat) {l : List α} {a : α} (h : a ∈ l) : f a ≤ (l.map f).sum := by
  induction l with
  | nil => cases h
  | cons b l ih =>
    simp only [List.map_cons, List.sum_cons]
    rcases List.mem_cons.1 h with rfl | h
    · omega
    · have := ih h
      omega
def NodeM.big (n : NodeM) : Bool := ((((decide ((n.ins.length : Int) > 40) || decide ((n.outs.length : Int) > 40)) || decide ((n.locals.length : Int) > 40)) || decide ((n.eqs.length : Int) > 40)) || decide ((n.name.size : Int) > 100))
def EqM.big (q : EqM) : Bool := decide ((q.lhs.length : Int) > 40)
def NodeM.great (n : NodeM) : Bool := n.big || n.eqs.any EqM.big
def ProgM.great (p : ProgM) : Bool := p.nodes.any NodeM.great || (decide ((p.nodes.length : Int) > 12) || decide ((totN p.nodes : Int) > 300))
set_option maxRecDepth 100000 in
set_option maxHeartbeats 1000000 in
theorem rnright_calls (n : NodeM) (hok : n.ok) : APure prog Γ 37 [n.enc] (bool n.right) := by
  refine APure.of func37 rfl fun σ => ?_
  simp only [ntmps37, List.length_cons, List.length_nil, Nat.reduceAdd, Nat.reduceSub, List.replicate_succ, List.replicate_zero, List.cons_append, List.nil_append]
  have hn0 : n.name.size ≤ 1000000000 := by have := hok.1; omega
  have hl : n.eqs.length ≤ maxLen := by rw [maxLen_eq]; have := hok.2.2.2.2.1; omega
  refine AW.regl false [1, 2] (by rfl) fun K1 hK1 => ?_ -- region 0
  simp only [go_sem, Nat.reduceAdd, Nat.reduceEqDiff, Nat.reduceLeDiff, true_and, ProgM.enc, NodeM.enc, EqM.enc, VarM.enc, enc_one, enc_len, enc_get43, enc_get47, eqc_get81, eqc_get128, List.length_map, List.length_cons, List.all_cons, one_row, len_row, ba_beqL, List.drop_succ_cons, List.drop_zero]
  refine hK1 _ _ ?_; try clear hK1 K1
  conv => enter [5]; simp only [setL_cons, setL_nil, List.set_cons_zero, List.set_cons_succ]
  refine AW.seq_k fun K2 hK2 => ?_
  refine AW.regcuts fun K3 hK3 => ?_ -- region 1
  refine AOps.cut false 10 15 (.val (.bool (!((nameM n.name)) || !((varsR n.ins))))) (by rfl) ?_ ?_
  · skip
    cases h8 : ((nameM n.name))
    · skip
      simp only [go_sem, Nat.reduceAdd, Nat.reduceEqDiff, Nat.reduceLeDiff, true_and, ProgM.enc, NodeM.enc, EqM.enc, VarM.enc, enc_one, enc_len, enc_get43, enc_get47, eqc_get81, eqc_get128, List.length_map, List.length_cons, List.all_cons, one_row, len_row, ba_beqL, List.drop_succ_cons, List.drop_zero, List.take_succ_cons, List.take_zero, h8]
      refine sC.of en44 ((rname_calls n.name (by first | assumption | omega)).on _).here (by rfl) ?_
      simp only [go_sem, Nat.reduceAdd, Nat.reduceEqDiff, Nat.reduceLeDiff, true_and, ProgM.enc, NodeM.enc, EqM.enc, VarM.enc, enc_one, enc_len, enc_get43, enc_get47, eqc_get81, eqc_get128, List.length_map, List.length_cons, List.all_cons, one_row, len_row, ba_beqL, List.drop_succ_cons, List.drop_zero, List.take_succ_cons, List.take_zero, h8]
      try simp [upd_at, h8, ProgM.enc, NodeM.enc, EqM.enc, VarM.enc, enc_one, enc_len, enc_get43, enc_get47, eqc_get81, eqc_get128, List.length_map, List.length_cons, List.all_cons, one_row, len_row, ba_beqL, List.drop_succ_cons, List.drop_zero]
    · skip
      simp only [go_sem, Nat.reduceAdd, Nat.reduceEqDiff, Nat.reduceLeDiff, true_and, ProgM.enc, NodeM.enc, EqM.enc, VarM.enc, enc_one, enc_len, enc_get43, enc_get47, eqc_get81, eqc_get128, List.length_map, List.length_cons, List.all_cons, one_row, len_row, ba_beqL, List.drop_succ_cons, List.drop_zero, List.take_succ_cons, List.take_zero, h8]
      refine sC.of en44 ((rname_calls n.name (by first | assumption | omega)).on _).here (by rfl) ?_
      simp only [go_sem, Nat.reduceAdd, Nat.reduceEqDiff, Nat.reduceLeDiff, true_and, ProgM.enc, NodeM.enc, EqM.enc, VarM.enc, enc_one, enc_len, enc_get43, enc_get47, eqc_get81, eqc_get128, List.length_map, List.length_cons, List.all_cons, one_row, len_row, ba_beqL, List.drop_succ_cons, List.drop_zero, List.take_succ_cons, List.take_zero, h8]
      refine sC.of en67 ((rvars_calls n.nlI n.ins (by first | exact hok.2.1 | exact hok.2.2.1 | exact hok.2.2.2.1)).on _).here (by rfl) ?_
      simp only [go_sem, Nat.reduceAdd, Nat.reduceEqDiff, Nat.reduceLeDiff, true_and, ProgM.enc, NodeM.enc, EqM.enc, VarM.enc, enc_one, enc_len, enc_get43, enc_get47, eqc_get81, eqc_get128, List.length_map, List.length_cons, List.all_cons, one_row, len_row, ba_beqL, List.drop_succ_cons, List.drop_zero, List.take_succ_cons, List.take_zero, h8]
      try simp [upd_at, h8, ProgM.enc, NodeM.enc, EqM.enc, VarM.enc, enc_one, enc_len, enc_get43, enc_get47, eqc_get81, eqc_get128, List.length_map, List.length_cons, List.all_cons, one_row, len_row, ba_beqL, List.drop_succ_cons, List.drop_zero]
  simp only [List.drop_succ_cons, List.drop_zero, List.set_cons_zero, List.set_cons_succ]
  refine AOps.cut false 6 21 (.val (.bool ((!((nameM n.name)) || !((varsR n.ins))) || !((varsR n.outs))))) (by rfl) ?_ ?_
  · skip
    cases h15 : ((!((nameM n.name)) || !((varsR n.ins))))
    · skip
      simp only [go_sem, Nat.reduceAdd, Nat.reduceEqDiff, Nat.reduceLeDiff, true_and, ProgM.enc, NodeM.enc, EqM.enc, VarM.enc, enc_one, enc_len, enc_get43, enc_get47, eqc_get81, eqc_get128, List.length_map, List.length_cons, List.all_cons, one_row, len_row, ba_beqL, List.drop_succ_cons, List.drop_zero, List.take_succ_cons, List.take_zero, h15]
      refine sC.of en67 ((rvars_calls n.nlO n.outs (by first | exact hok.2.1 | exact hok.2.2.1 | exact hok.2.2.2.1)).on _).here (by rfl) ?_
      simp only [go_sem, Nat.reduceAdd, Nat.reduceEqDiff, Nat.reduceLeDiff, true_and, ProgM.enc, NodeM.enc, EqM.enc, VarM.enc, enc_one, enc_len, enc_get43, enc_get47, eqc_get81, eqc_get128, List.length_map, List.length_cons, List.all_cons, one_row, len_row, ba_beqL, List.drop_succ_cons, List.drop_zero, List.take_succ_cons, List.take_zero, h15]
      try simp [upd_at, h15, ProgM.enc, NodeM.enc, EqM.enc, VarM.enc, enc_one, enc_len, enc_get43, enc_get47, eqc_get81, eqc_get128, List.length_map, List.length_cons, List.all_cons, one_row, len_row, ba_beqL, List.drop_succ_cons, List.drop_zero]
    · skip
      simp only [go_sem, Nat.reduceAdd, Nat.reduceEqDiff, Nat.reduceLeDiff, true_and, ProgM.enc, NodeM.enc, EqM.enc, VarM.enc, enc_one, enc_len, enc_get43, enc_get47, eqc_get81, eqc_get128, List.length_map, List.length_cons, List.all_cons, one_row, len_row, ba_beqL, List.drop_succ_cons, List.drop_zero, List.take_succ_cons, List.take_zero, h15]
      try simp [upd_at, h15, ProgM.enc, NodeM.enc, EqM.enc, VarM.enc, enc_one, enc_len, enc_get43, enc_get47, eqc_get81, eqc_get128, List.length_map, List.length_cons, List.all_cons, one_row, len_row, ba_beqL, List.drop_succ_cons, List.drop_zero]
  simp only [List.drop_succ_cons, List.drop_zero, List.set_cons_zero, List.set_cons_succ]
  refine AOps.cut false 6 27 (.val (.bool (((!((nameM n.name)) || !((varsR n.ins))) || !((varsR n.outs))) || (((n.outs.length : Nat) : Int) == 0)))) (by rfl) ?_ ?_
  · skip
    cases h21 : (((!((nameM n.name)) || !((varsR n.ins))) || !((varsR n.outs))))
    · skip
      simp only [go_sem, Nat.reduceAdd, Nat.reduceEqDiff, Nat.reduceLeDiff, true_and, ProgM.enc, NodeM.enc, EqM.enc, VarM.enc, enc_one, enc_len, enc_get43, enc_get47, eqc_get81, eqc_get128, List.length_map, List.length_cons, List.all_cons, one_row, len_row, ba_beqL, List.drop_succ_cons, List.drop_zero, List.take_succ_cons, List.take_zero, h21]
      try simp [upd_at, h21, ProgM.enc, NodeM.enc, EqM.enc, VarM.enc, enc_one, enc_len, enc_get43, enc_get47, eqc_get81, eqc_get128, List.length_map, List.length_cons, List.all_cons, one_row, len_row, ba_beqL, List.drop_succ_cons, List.drop_zero]
    · skip
      simp only [go_sem, Nat.reduceAdd, Nat.reduceEqDiff, Nat.reduceLeDiff, true_and, ProgM.enc, NodeM.enc, EqM.enc, VarM.enc, enc_one, enc_len, enc_get43, enc_get47, eqc_get81, eqc_get128, List.length_map, List.length_cons, List.all_cons, one_row, len_row, ba_beqL, List.drop_succ_cons, List.drop_zero, List.take_succ_cons, List.take_zero, h21]
      try simp [upd_at, h21, ProgM.enc, NodeM.enc, EqM.enc, VarM.enc, enc_one, enc_len, enc_get43, enc_get47, eqc_get81, eqc_get128, List.length_map, List.length_cons, List.all_cons, one_row, len_row, ba_beqL, List.drop_succ_cons, List.drop_zero]
  simp only [List.drop_succ_cons, List.drop_zero, List.set_cons_zero, List.set_cons_succ]
  refine AOps.cut false 6 33 (.val (.bool ((((!((nameM n.name)) || !((varsR n.ins))) || !((varsR n.outs))) || (((n.outs.length : Nat) : Int) == 0)) || !((varsR n.locals))))) (by rfl) ?_ ?_
  · skip
    cases h27 : ((((!((nameM n.name)) || !((varsR n.ins))) || !((varsR n.outs))) || (((n.outs.length : Nat) : Int) == 0)))
    · skip
      simp only [go_sem, Nat.reduceAdd, Nat.reduceEqDiff, Nat.reduceLeDiff, true_and, ProgM.enc, NodeM.enc, EqM.enc, VarM.enc, enc_one, enc_len, enc_get43, enc_get47, eqc_get81, eqc_get128, List.length_map, List.length_cons, List.all_cons, one_row, len_row, ba_beqL, List.drop_succ_cons, List.drop_zero, List.take_succ_cons, List.take_zero, h27]
      refine sC.of en67 ((rvars_calls n.nlL n.locals (by first | exact hok.2.1 | exact hok.2.2.1 | exact hok.2.2.2.1)).on _).here (by rfl) ?_
      simp only [go_sem, Nat.reduceAdd, Nat.reduceEqDiff, Nat.reduceLeDiff, true_and, ProgM.enc, NodeM.enc, EqM.enc, VarM.enc, enc_one, enc_len, enc_get43, enc_get47, eqc_get81, eqc_get128, List.length_map, List.length_cons, List.all_cons, one_row, len_row, ba_beqL, List.drop_succ_cons, List.drop_zero, List.take_succ_cons, List.take_zero, h27]
      try simp [upd_at, h27, ProgM.enc, NodeM.enc, EqM.enc, VarM.enc, enc_one, enc_len, enc_get43, enc_get47, eqc_get81, eqc_get128, List.length_map, List.length_cons, List.all_cons, one_row, len_row, ba_beqL, List.drop_succ_cons, List.drop_zero]
    · skip
      simp only [go_sem, Nat.reduceAdd, Nat.reduceEqDiff, Nat.reduceLeDiff, true_and, ProgM.enc, NodeM.enc, EqM.enc, VarM.enc, enc_one, enc_len, enc_get43, enc_get47, eqc_get81, eqc_get128, List.length_map, List.length_cons, List.all_cons, one_row, len_row, ba_beqL, List.drop_succ_cons, List.drop_zero, List.take_succ_cons, List.take_zero, h27]
      try simp [upd_at, h27, ProgM.enc, NodeM.enc, EqM.enc, VarM.enc, enc_one, enc_len, enc_get43, enc_get47, eqc_get81, eqc_get128, List.length_map, List.length_cons, List.all_cons, one_row, len_row, ba_beqL, List.drop_succ_cons, List.drop_zero]
  simp only [List.drop_succ_cons, List.drop_zero, List.set_cons_zero, List.set_cons_succ]
  refine AOps.cut false 6 39 (.val (.bool (((((!((nameM n.name)) || !((varsR n.ins))) || !((varsR n.outs))) || (((n.outs.length : Nat) : Int) == 0)) || !((varsR n.locals))) || (decide (((n.eqs.length : Nat) : Int) > 1000))))) (by rfl) ?_ ?_
  · skip
    cases h33 : (((((!((nameM n.name)) || !((varsR n.ins))) || !((varsR n.outs))) || (((n.outs.length : Nat) : Int) == 0)) || !((varsR n.locals))))
    · skip
      simp only [go_sem, Nat.reduceAdd, Nat.reduceEqDiff, Nat.reduceLeDiff, true_and, ProgM.enc, NodeM.enc, EqM.enc, VarM.enc, enc_one, enc_len, enc_get43, enc_get47, eqc_get81, eqc_get128, List.length_map, List.length_cons, List.all_cons, one_row, len_row, ba_beqL, List.drop_succ_cons, List.drop_zero, List.take_succ_cons, List.take_zero, h33]
      try simp [upd_at, h33, ProgM.enc, NodeM.enc, EqM.enc, VarM.enc, enc_one, enc_len, enc_get43, enc_get47, eqc_get81, eqc_get128, List.length_map, List.length_cons, List.all_cons, one_row, len_row, ba_beqL, List.drop_succ_cons, List.drop_zero]
    · skip
      simp only [go_sem, Nat.reduceAdd, Nat.reduceEqDiff, Nat.reduceLeDiff, true_and, ProgM.enc, NodeM.enc, EqM.enc, VarM.enc, enc_one, enc_len, enc_get43, enc_get47, eqc_get81, eqc_get128, List.length_map, List.length_cons, List.all_cons, one_row, len_row, ba_beqL, List.drop_succ_cons, List.drop_zero, List.take_succ_cons, List.take_zero, h33]
      try simp [upd_at, h33, ProgM.enc, NodeM.enc, EqM.enc, VarM.enc, enc_one, enc_len, enc_get43, enc_get47, eqc_get81, eqc_get128, List.length_map, List.length_cons, List.all_cons, one_row, len_row, ba_beqL, List.drop_succ_cons, List.drop_zero]
  simp only [List.drop_succ_cons, List.drop_zero, List.set_cons_zero, List.set_cons_succ]
  refine AOps.nil (hK3 _ _ ?_); try clear hK3 K3
  refine AW.cond rfl (fun hc39 => ?_) (fun hc39 => ?_)
  · skip
    refine AW.regl false [2] (by rfl) fun K4 hK4 => ?_ -- region 2
    simp only [go_sem, Nat.reduceAdd, Nat.reduceEqDiff, Nat.reduceLeDiff, true_and, ProgM.enc, NodeM.enc, EqM.enc, VarM.enc, enc_one, enc_len, enc_get43, enc_get47, eqc_get81, eqc_get128, List.length_map, List.length_cons, List.all_cons, one_row, len_row, ba_beqL, List.drop_succ_cons, List.drop_zero]
    refine hK4 _ _ ?_; try clear hK4 K4
    conv => enter [5]; simp only [setL_cons, setL_nil, List.set_cons_zero, List.set_cons_succ]
    refine AW.ret ⟨.inr rfl, _, rfl, by simp, ?_⟩ -- return 1
    refine frzB ?_
    unfold NodeM.right
    simp only [Bool.or_eq_true, Bool.not_eq_true', decide_eq_true_eq, beq_iff_eq] at hc39
    rcases hc39 with ((((h | h) | h) | h) | h) | h
    · simp [h]
    · simp [h]
    · simp [h]
    · have : ¬ (n.outs.length : Int) ≥ 1 := by omega
      simp [this]
    · simp [h]
    · have : ¬ (n.eqs.length : Int) ≤ 1000 := by omega
      simp [this]
  · skip
    have hpre := hc39
    refine AW.skip ?_
    refine hK2 _ _ ?_; try clear hK2 K2
    refine AW.seq_k fun K5 hK5 => ?_
    refine AW.regl false [3] (by rfl) fun K6 hK6 => ?_ -- region 3
    simp only [go_sem, Nat.reduceAdd, Nat.reduceEqDiff, Nat.reduceLeDiff, true_and, ProgM.enc, NodeM.enc, EqM.enc, VarM.enc, enc_one, enc_len, enc_get43, enc_get47, eqc_get81, eqc_get128, List.length_map, List.length_cons, List.all_cons, one_row, len_row, ba_beqL, List.drop_succ_cons, List.drop_zero]
    refine hK6 _ _ ?_; try clear hK6 K6
    conv => enter [5]; simp only [setL_cons, setL_nil, List.set_cons_zero, List.set_cons_succ]
    refine AW.block ?_
    refine AW.loop_dr (α := Nat) (fun i => [.any, (.ref σ.length 0), .any, (.val (.int .i64 ((i : Nat) : Int))), .any, .any, .any, .any, .any, .any, .any, .any, .any, .any, .any, .any, .any, .any, .any, .any, .any, .any, .any, .any, .any, .any, .any, .any, .any, .any, .any, .any, .any, .any, .any, .any, .any, .any, .any, .any, .any, .any, .any, .any, .any, .any, .any, .any, .any, .any, .any, .any, .any, .any, .any, .any, .any, .any, .any, .any, .any, .any, .any, .any, .any, .any, .any, .any, .any, .any, .any, .any, .any, .any, .any, .any, .any, .any, .any, .any, .any, .any]) (fun i => σ ++ [.cells (NodeM.enc n).cells]) (fun i => n.eqs.length - i) (fun i => i ≤ n.eqs.length ∧ (n.eqs.take i).any (fun q => !q.right) = false) 0 ?_ ?_ ?_
    · exact ⟨⟨Nat.zero_le _, rfl⟩, by simp [Wk], rfl⟩
    · exact fun y _ => ⟨by simp [belL, AV.bel], bel_app σ fun a ha => by
        simp only [List.mem_singleton] at ha
        subst ha
        exact node_obel n _⟩
    · rintro i ⟨hi, hit⟩
      refine AW.seq_k fun K7 hK7 => ?_
      refine AW.regl false [44] (by rfl) fun K8 hK8 => ?_ -- region 4
      simp only [go_sem, Nat.reduceAdd, Nat.reduceEqDiff, Nat.reduceLeDiff, true_and, ProgM.enc, NodeM.enc, EqM.enc, VarM.enc, enc_one, enc_len, enc_get43, enc_get47, eqc_get81, eqc_get128, List.length_map, List.length_cons, List.all_cons, one_row, len_row, ba_beqL, List.drop_succ_cons, List.drop_zero]
      refine hK8 _ _ ?_; try clear hK8 K8
      conv => enter [5]; simp only [setL_cons, setL_nil, List.set_cons_zero, List.set_cons_succ]
      refine AW.cond rfl (fun hc44 => ?_) (fun hc44 => ?_)
      · skip
        have hi1 : i < n.eqs.length := by simpa using hc44
        obtain ⟨u, hu0⟩ : ∃ z, z = n.eqs[i] := ⟨_, rfl⟩
        have hx : (n.eqs.map EqM.enc)[i]? = some (.agg (rowAV 1 u.nl (u.lhs.map str) :: u.rhs.enc.cells)) := by rw [hu0, List.getElem?_map, List.getElem?_eq_getElem hi1]; rfl
        have hu : u.ok := hok.2.2.2.2.2 u (by rw [hu0]; exact mem_at hi1)
        have hlu : u.lhs.length ≤ maxLen := by rw [maxLen_eq]; have := hu.1.1; omega
        refine AW.skip ?_
        refine hK7 _ _ ?_; try clear hK7 K7
        refine AW.seq_k fun K9 hK9 => ?_
        refine AW.block ?_
        refine AW.regl false [4] (by rfl) fun K10 hK10 => ?_ -- region 6
        simp only [go_sem, Nat.reduceAdd, Nat.reduceEqDiff, Nat.reduceLeDiff, true_and, ProgM.enc, NodeM.enc, EqM.enc, VarM.enc, enc_one, enc_len, enc_get43, enc_get47, eqc_get81, eqc_get128, List.length_map, List.length_cons, List.all_cons, one_row, len_row, ba_beqL, List.drop_succ_cons, List.drop_zero, at_row hx, List.cons_append]
        refine hK10 _ _ ?_; try clear hK10 K10
        conv => enter [5]; simp only [setL_cons, setL_nil, List.set_cons_zero, List.set_cons_succ, upd_none, upd_at]
        refine AW.seq_k fun K11 hK11 => ?_
        refine AW.regtf false 67 (.val (.bool (((decide (((u.lhs.length : Nat) : Int) < 1)) || (decide (((u.lhs.length : Nat) : Int) > 1000))) || !((exprR u.rhs))))) (by rfl) ?_ ?_ -- region 7
        · skip
          cases h55 : ((decide (((u.lhs.length : Nat) : Int) < 1)))
          · skip
            cases h60 : ((decide (((u.lhs.length : Nat) : Int) > 1000)))
            · skip
              simp only [go_sem, Nat.reduceAdd, Nat.reduceEqDiff, Nat.reduceLeDiff, true_and, ProgM.enc, NodeM.enc, EqM.enc, VarM.enc, enc_one, enc_len, enc_get43, enc_get47, eqc_get81, eqc_get128, List.length_map, List.length_cons, List.all_cons, one_row, len_row, ba_beqL, List.drop_succ_cons, List.drop_zero, exprR, Bool.not_and, h55, h60]
              refine sC.of en14 ((right_expr_calls u.rhs (by have := hu.2.1; omega) hu.2.2).on _).here (by rfl) ?_
              simp only [go_sem, Nat.reduceAdd, Nat.reduceEqDiff, Nat.reduceLeDiff, true_and, ProgM.enc, NodeM.enc, EqM.enc, VarM.enc, enc_one, enc_len, enc_get43, enc_get47, eqc_get81, eqc_get128, List.length_map, List.length_cons, List.all_cons, one_row, len_row, ba_beqL, List.drop_succ_cons, List.drop_zero, exprR, Bool.not_and, h55, h60]
              try simp [upd_at, h55, h60, ProgM.enc, NodeM.enc, EqM.enc, VarM.enc, enc_one, enc_len, enc_get43, enc_get47, eqc_get81, eqc_get128, List.length_map, List.length_cons, List.all_cons, one_row, len_row, ba_beqL, List.drop_succ_cons, List.drop_zero, exprR, Bool.not_and]
            · skip
              simp only [go_sem, Nat.reduceAdd, Nat.reduceEqDiff, Nat.reduceLeDiff, true_and, ProgM.enc, NodeM.enc, EqM.enc, VarM.enc, enc_one, enc_len, enc_get43, enc_get47, eqc_get81, eqc_get128, List.length_map, List.length_cons, List.all_cons, one_row, len_row, ba_beqL, List.drop_succ_cons, List.drop_zero, exprR, Bool.not_and, h55, h60]
              try simp [upd_at, h55, h60, ProgM.enc, NodeM.enc, EqM.enc, VarM.enc, enc_one, enc_len, enc_get43, enc_get47, eqc_get81, eqc_get128, List.length_map, List.length_cons, List.all_cons, one_row, len_row, ba_beqL, List.drop_succ_cons, List.drop_zero, exprR, Bool.not_and]
          · skip
            simp only [go_sem, Nat.reduceAdd, Nat.reduceEqDiff, Nat.reduceLeDiff, true_and, ProgM.enc, NodeM.enc, EqM.enc, VarM.enc, enc_one, enc_len, enc_get43, enc_get47, eqc_get81, eqc_get128, List.length_map, List.length_cons, List.all_cons, one_row, len_row, ba_beqL, List.drop_succ_cons, List.drop_zero, exprR, Bool.not_and, h55]
            try simp [upd_at, h55, ProgM.enc, NodeM.enc, EqM.enc, VarM.enc, enc_one, enc_len, enc_get43, enc_get47, eqc_get81, eqc_get128, List.length_map, List.length_cons, List.all_cons, one_row, len_row, ba_beqL, List.drop_succ_cons, List.drop_zero, exprR, Bool.not_and]
        conv => enter [5]; simp only [List.set_cons_zero, List.set_cons_succ]
        refine AW.cond rfl (fun hc67 => ?_) (fun hc67 => ?_)
        · skip
          refine AW.regl false [2] (by rfl) fun K13 hK13 => ?_ -- region 8
          simp only [go_sem, Nat.reduceAdd, Nat.reduceEqDiff, Nat.reduceLeDiff, true_and, ProgM.enc, NodeM.enc, EqM.enc, VarM.enc, enc_one, enc_len, enc_get43, enc_get47, eqc_get81, eqc_get128, List.length_map, List.length_cons, List.all_cons, one_row, len_row, ba_beqL, List.drop_succ_cons, List.drop_zero]
          refine hK13 _ _ ?_; try clear hK13 K13
          conv => enter [5]; simp only [setL_cons, setL_nil, List.set_cons_zero, List.set_cons_succ]
          refine AW.ret ⟨.inr rfl, _, rfl, by simp, ?_⟩ -- return 2
          refine frzB ?_
          unfold NodeM.right
          have hb : (!u.right) = true := by
            simp only [Bool.or_eq_true, decide_eq_true_eq, Bool.not_eq_true'] at hc67
            rcases hc67 with (h | h) | h
            · have : ¬ (u.lhs.length : Int) ≥ 1 := by omega
              simp [EqM.right, this]
            · have : ¬ (u.lhs.length : Int) ≤ 1000 := by omega
              simp [EqM.right, this]
            · simp [EqM.right, h]
          rw [any_at hi1 (p := fun q : EqM => !q.right) (by rw [← hu0]; exact hb)]
          simp
        · skip
          refine AW.skip ?_
          refine hK11 _ _ ?_; try clear hK11 K11
          refine AW.regl false [5] (by rfl) fun K14 hK14 => ?_ -- region 9
          simp only [go_sem, Nat.reduceAdd, Nat.reduceEqDiff, Nat.reduceLeDiff, true_and, ProgM.enc, NodeM.enc, EqM.enc, VarM.enc, enc_one, enc_len, enc_get43, enc_get47, eqc_get81, eqc_get128, List.length_map, List.length_cons, List.all_cons, one_row, len_row, ba_beqL, List.drop_succ_cons, List.drop_zero]
          refine hK14 _ _ ?_; try clear hK14 K14
          conv => enter [5]; simp only [setL_cons, setL_nil, List.set_cons_zero, List.set_cons_succ]
          refine AW.block ?_
          refine AW.loop_wk (α := Nat) (fun j => [.any, (.ref σ.length 0), .any, (.val (.int .i64 ((i : Nat) : Int))), (.ref (σ.length + 1) 0), (.val (.int .i64 ((j : Nat) : Int))), .any, .any, .any, .any, .any, .any, .any, .any, .any, .any, .any, .any, .any, .any, .any, .any, .any, .any, .any, .any, .any, .any, .any, .any, .any, .any, .any, .any, .any, .any, .any, .any, .any, .any, .any, .any, .any, .any, .any, .any, .any, .any, .any, .any, .any, .any, .any, .any, .any, .any, .any, .any, .any, .any, .any, .any, .any, .any, .any, .any, .any, .any, .any, .any, .any, .any, .any, .any, .any, .any, .any, .any, .any, .any, .any, .any]) (fun j => σ ++ [.cells (NodeM.enc n).cells, .cells (EqM.enc u).cells]) (fun j => u.lhs.length - j) (fun j => j ≤ u.lhs.length ∧ (u.lhs.take j).any (fun s => !nameM s) = false) 0 ?_ ?_
          · exact ⟨⟨Nat.zero_le _, rfl⟩, by simp [Wk], rfl⟩
          · rintro j ⟨hj, hjt⟩
            refine AW.seq_k fun K15 hK15 => ?_
            refine AW.regl false [72] (by rfl) fun K16 hK16 => ?_ -- region 10
            simp only [go_sem, Nat.reduceAdd, Nat.reduceEqDiff, Nat.reduceLeDiff, true_and, ProgM.enc, NodeM.enc, EqM.enc, VarM.enc, enc_one, enc_len, enc_get43, enc_get47, eqc_get81, eqc_get128, List.length_map, List.length_cons, List.all_cons, one_row, len_row, ba_beqL, List.drop_succ_cons, List.drop_zero]
            refine hK16 _ _ ?_; try clear hK16 K16
            conv => enter [5]; simp only [setL_cons, setL_nil, List.set_cons_zero, List.set_cons_succ]
            refine AW.cond rfl (fun hc72 => ?_) (fun hc72 => ?_)
            · skip
              have hj1 : j < u.lhs.length := by simpa using hc72
              obtain ⟨s, hs0⟩ : ∃ z, z = u.lhs[j] := ⟨_, rfl⟩
              have hy : (u.lhs.map str)[j]? = some (str s) := by rw [hs0, List.getElem?_map, List.getElem?_eq_getElem hj1]; rfl
              have hs1 : s.size ≤ 1000000000 := by have := hu.1.2 s (by rw [hs0]; exact mem_at hj1); omega
              refine AW.skip ?_
              refine hK15 _ _ ?_; try clear hK15 K15
              refine AW.seq_k fun K17 hK17 => ?_
              refine AW.block ?_
              refine AW.regl false [81] (by rfl) fun K18 hK18 => ?_ -- region 12
              simp only [go_sem, Nat.reduceAdd, Nat.reduceEqDiff, Nat.reduceLeDiff, true_and, ProgM.enc, NodeM.enc, EqM.enc, VarM.enc, enc_one, enc_len, enc_get43, enc_get47, eqc_get81, eqc_get128, List.length_map, List.length_cons, List.all_cons, one_row, len_row, ba_beqL, List.drop_succ_cons, List.drop_zero, at_row hy]
              refine sC.of en44 ((rname_calls s (by first | assumption | omega)).on _).here (by rfl) ?_
              simp only [go_sem, Nat.reduceAdd, Nat.reduceEqDiff, Nat.reduceLeDiff, true_and, ProgM.enc, NodeM.enc, EqM.enc, VarM.enc, enc_one, enc_len, enc_get43, enc_get47, eqc_get81, eqc_get128, List.length_map, List.length_cons, List.all_cons, one_row, len_row, ba_beqL, List.drop_succ_cons, List.drop_zero, at_row hy]
              refine hK18 _ _ ?_; try clear hK18 K18
              conv => enter [5]; simp only [setL_cons, setL_nil, List.set_cons_zero, List.set_cons_succ]
              refine AW.cond rfl (fun hc81 => ?_) (fun hc81 => ?_)
              · skip
                refine AW.regl false [2] (by rfl) fun K19 hK19 => ?_ -- region 13
                simp only [go_sem, Nat.reduceAdd, Nat.reduceEqDiff, Nat.reduceLeDiff, true_and, ProgM.enc, NodeM.enc, EqM.enc, VarM.enc, enc_one, enc_len, enc_get43, enc_get47, eqc_get81, eqc_get128, List.length_map, List.length_cons, List.all_cons, one_row, len_row, ba_beqL, List.drop_succ_cons, List.drop_zero]
                refine hK19 _ _ ?_; try clear hK19 K19
                conv => enter [5]; simp only [setL_cons, setL_nil, List.set_cons_zero, List.set_cons_succ]
                refine AW.ret ⟨.inr rfl, _, rfl, by simp, ?_⟩ -- return 3
                refine frzB ?_
                unfold NodeM.right
                have hb : (!u.right) = true := by simp [EqM.right, any_at hj1 (p := fun s => !nameM s) (by rw [← hs0]; exact hc81)]
                rw [any_at hi1 (p := fun q : EqM => !q.right) (by rw [← hu0]; exact hb)]
                simp
              · skip
                refine AW.skip ?_
                refine hK17 _ _ ?_; try clear hK17 K17
                refine AW.lastl false [5] (by rfl) fun K hK => ?_ -- region 11
                simp only [go_sem, Nat.reduceAdd, Nat.reduceEqDiff, Nat.reduceLeDiff, true_and, ProgM.enc, NodeM.enc, EqM.enc, VarM.enc, enc_one, enc_len, enc_get43, enc_get47, eqc_get81, eqc_get128, List.length_map, List.length_cons, List.all_cons, one_row, len_row, ba_beqL, List.drop_succ_cons, List.drop_zero]
                refine hK _ _ fun env' hw => ?_
                simp only [setL_cons, setL_nil, List.set_cons_zero, List.set_cons_succ] at hw
                refine ⟨j + 1, by omega, ⟨by omega, any_step hj1 hjt (by rw [← hs0]; exact hc81)⟩, ?_, rfl⟩
                refine hw.trans ?_
                simp [Wk, wrap_succ hj1 hlu]
                try omega
            · skip
              have hj1 : j = u.lhs.length := by
                have : ¬ j < u.lhs.length := by simpa using hc72
                omega
              have hall2 := any_end (by omega) hjt
              have hgood : (!u.right) = false := by
                simp only [EqM.right, hall2]
                simp only [Bool.or_eq_false_iff, decide_eq_false_iff_not, Bool.not_eq_false'] at hc67
                obtain ⟨⟨h1, h2⟩, h3⟩ := hc67
                simp [h3]
                omega
              refine AW.exit ?_
              refine hK9 _ _ ?_; try clear hK9 K9
              refine AW.lastl false [3] (by rfl) fun K hK => ?_ -- region 5
              simp only [go_sem, Nat.reduceAdd, Nat.reduceEqDiff, Nat.reduceLeDiff, true_and, ProgM.enc, NodeM.enc, EqM.enc, VarM.enc, enc_one, enc_len, enc_get43, enc_get47, eqc_get81, eqc_get128, List.length_map, List.length_cons, List.all_cons, one_row, len_row, ba_beqL, List.drop_succ_cons, List.drop_zero]
              refine hK _ _ fun env' hw => ?_
              simp only [setL_cons, setL_nil, List.set_cons_zero, List.set_cons_succ] at hw
              refine ⟨i + 1, by omega, ⟨by omega, any_step hi1 hit (by rw [← hu0]; exact hgood)⟩, ?_, by first | rfl | (simp [List.take_append, List.take_of_length_le]; done) | (simp [List.take_append, List.take_of_length_le]; repeat' constructor)⟩
              refine hw.trans ?_
              simp [Wk, wrap_succ hi1 hl]
              try omega
      · skip
        have hi1 : i = n.eqs.length := by
          have : ¬ i < n.eqs.length := by simpa using hc44
          omega
        have hall := any_end (by omega) hit
        refine AW.exit ?_
        refine hK5 _ _ ?_; try clear hK5 K5
        refine AW.regl false [2] (by rfl) fun K20 hK20 => ?_ -- region 14
        simp only [go_sem, Nat.reduceAdd, Nat.reduceEqDiff, Nat.reduceLeDiff, true_and, ProgM.enc, NodeM.enc, EqM.enc, VarM.enc, enc_one, enc_len, enc_get43, enc_get47, eqc_get81, eqc_get128, List.length_map, List.length_cons, List.all_cons, one_row, len_row, ba_beqL, List.drop_succ_cons, List.drop_zero]
        refine hK20 _ _ ?_; try clear hK20 K20
        conv => enter [5]; simp only [setL_cons, setL_nil, List.set_cons_zero, List.set_cons_succ]
        refine AW.ret ⟨.inr rfl, _, rfl, by simp, ?_⟩ -- return 4
        refine frzB ?_
        unfold NodeM.right
        rw [hall]
        simp only [Bool.or_eq_false_iff, decide_eq_false_iff_not, Bool.not_eq_false', beq_eq_false_iff_ne] at hpre
        obtain ⟨⟨⟨⟨⟨h1, h2⟩, h3⟩, h4⟩, h5⟩, h6⟩ := hpre
        simp [h1, h2, h3, h5]
        omega

set_option maxRecDepth 100000 in
theorem rpright_calls (p : ProgM) (hpk : p.ok) : APure prog Γ 35 [ProgM.enc p] (.val (.bool p.right)) := by
  refine APure.of func35 rfl fun σ => ?_
  simp only [ntmps35, List.length_cons, List.length_nil, Nat.reduceAdd, Nat.reduceSub, List.replicate_succ, List.replicate_zero, List.cons_append, List.nil_append]
  have hl : p.nodes.length ≤ maxLen := by rw [maxLen_eq]; have := hpk.1; omega
  refine AW.regl false [1, 2] (by rfl) fun K1 hK1 => ?_ -- region 0
  simp only [go_sem, Nat.reduceAdd, Nat.reduceEqDiff, Nat.reduceLeDiff, true_and, ProgM.enc, NodeM.enc, EqM.enc, VarM.enc, enc_one, enc_len, enc_get43, enc_get47, eqc_get81, eqc_get128, List.length_map, List.length_cons, List.all_cons, one_row, len_row, ba_beqL]
  refine hK1 _ _ ?_; try clear hK1 K1
  conv => enter [5]; simp only [setL_cons, setL_nil, List.set_cons_zero, List.set_cons_succ]
  refine AW.seq_k fun K2 hK2 => ?_
  refine AW.regl false [3] (by rfl) fun K3 hK3 => ?_ -- region 1
  simp only [go_sem, Nat.reduceAdd, Nat.reduceEqDiff, Nat.reduceLeDiff, true_and, ProgM.enc, NodeM.enc, EqM.enc, VarM.enc, enc_one, enc_len, enc_get43, enc_get47, eqc_get81, eqc_get128, List.length_map, List.length_cons, List.all_cons, one_row, len_row, ba_beqL]
  refine hK3 _ _ ?_; try clear hK3 K3
  conv => enter [5]; simp only [setL_cons, setL_nil, List.set_cons_zero, List.set_cons_succ]
  refine AW.block ?_
  refine AW.loop_wk (α := Nat) (fun i => [.any, (.ref σ.length 0), .any, (.val (.int .i64 ((i : Nat) : Int))), .any, .any, .any, .any, .any, .any, .any, .any, .any, .any, .any, .any, .any, .any, .any, .any, .any, .any]) (fun i => σ ++ [.cells (ProgM.enc p).cells]) (fun i => p.nodes.length - i) (fun i => i ≤ p.nodes.length ∧ (p.nodes.take i).any (fun n => !n.right) = false) 0 ?_ ?_
  · exact ⟨⟨Nat.zero_le _, rfl⟩, by simp [Wk], rfl⟩
  · rintro i ⟨hi, hit⟩
    refine AW.seq_k fun K4 hK4 => ?_
    refine AW.regl false [8] (by rfl) fun K5 hK5 => ?_ -- region 2
    simp only [go_sem, Nat.reduceAdd, Nat.reduceEqDiff, Nat.reduceLeDiff, true_and, ProgM.enc, NodeM.enc, EqM.enc, VarM.enc, enc_one, enc_len, enc_get43, enc_get47, eqc_get81, eqc_get128, List.length_map, List.length_cons, List.all_cons, one_row, len_row, ba_beqL]
    refine hK5 _ _ ?_; try clear hK5 K5
    conv => enter [5]; simp only [setL_cons, setL_nil, List.set_cons_zero, List.set_cons_succ]
    refine AW.cond rfl (fun hc8 => ?_) (fun hc8 => ?_)
    · skip
      have hi1 : i < p.nodes.length := by simpa using hc8
      obtain ⟨m, hm⟩ : ∃ z, z = p.nodes[i] := ⟨_, rfl⟩
      have hx : (p.nodes.map NodeM.enc)[i]? = some (NodeM.enc m) := by rw [hm, List.getElem?_map, List.getElem?_eq_getElem hi1]; rfl
      have hok : m.ok := hpk.2 m (by rw [hm]; exact mem_at hi1)
      refine AW.skip ?_
      refine hK4 _ _ ?_; try clear hK4 K4
      refine AW.seq_k fun K6 hK6 => ?_
      refine AW.block ?_
      refine AW.regl false [17] (by rfl) fun K7 hK7 => ?_ -- region 4
      simp only [go_sem, Nat.reduceAdd, Nat.reduceEqDiff, Nat.reduceLeDiff, true_and, ProgM.enc, NodeM.enc, EqM.enc, VarM.enc, enc_one, enc_len, enc_get43, enc_get47, eqc_get81, eqc_get128, List.length_map, List.length_cons, List.all_cons, one_row, len_row, ba_beqL, at_row hx]
      refine sC.of en37 ((rnright_calls m hok).on _).here (by rfl) ?_
      simp only [go_sem, Nat.reduceAdd, Nat.reduceEqDiff, Nat.reduceLeDiff, true_and, ProgM.enc, NodeM.enc, EqM.enc, VarM.enc, enc_one, enc_len, enc_get43, enc_get47, eqc_get81, eqc_get128, List.length_map, List.length_cons, List.all_cons, one_row, len_row, ba_beqL, at_row hx]
      refine hK7 _ _ ?_; try clear hK7 K7
      conv => enter [5]; simp only [setL_cons, setL_nil, List.set_cons_zero, List.set_cons_succ]
      refine AW.cond rfl (fun hc17 => ?_) (fun hc17 => ?_)
      · skip
        refine AW.regl false [2] (by rfl) fun K8 hK8 => ?_ -- region 5
        simp only [go_sem, Nat.reduceAdd, Nat.reduceEqDiff, Nat.reduceLeDiff, true_and, ProgM.enc, NodeM.enc, EqM.enc, VarM.enc, enc_one, enc_len, enc_get43, enc_get47, eqc_get81, eqc_get128, List.length_map, List.length_cons, List.all_cons, one_row, len_row, ba_beqL]
        refine hK8 _ _ ?_; try clear hK8 K8
        conv => enter [5]; simp only [setL_cons, setL_nil, List.set_cons_zero, List.set_cons_succ]
        refine AW.ret ⟨.inr rfl, _, rfl, by simp, ?_⟩ -- return 1
        refine frzB ?_
        unfold ProgM.right
        rw [any_at hi1 (p := fun n : NodeM => !n.right) (by rw [← hm]; exact hc17)]
        simp
      · skip
        refine AW.skip ?_
        refine hK6 _ _ ?_; try clear hK6 K6
        refine AW.lastl false [3] (by rfl) fun K hK => ?_ -- region 3
        simp only [go_sem, Nat.reduceAdd, Nat.reduceEqDiff, Nat.reduceLeDiff, true_and, ProgM.enc, NodeM.enc, EqM.enc, VarM.enc, enc_one, enc_len, enc_get43, enc_get47, eqc_get81, eqc_get128, List.length_map, List.length_cons, List.all_cons, one_row, len_row, ba_beqL]
        refine hK _ _ fun env' hw => ?_
        simp only [setL_cons, setL_nil, List.set_cons_zero, List.set_cons_succ] at hw
        refine ⟨i + 1, by omega, ⟨by omega, any_step hi1 hit (by rw [← hm]; exact hc17)⟩, ?_, rfl⟩
        refine hw.trans ?_
        simp [Wk, wrap_succ hi1 hl]
        try omega
    · skip
      have hi1 : i = p.nodes.length := by
        have : ¬ i < p.nodes.length := by simpa using hc8
        omega
      have hall := any_end (by omega) hit
      refine AW.exit ?_
      refine hK2 _ _ ?_; try clear hK2 K2
      refine AW.regl false [2] (by rfl) fun K9 hK9 => ?_ -- region 6
      simp only [go_sem, Nat.reduceAdd, Nat.reduceEqDiff, Nat.reduceLeDiff, true_and, ProgM.enc, NodeM.enc, EqM.enc, VarM.enc, enc_one, enc_len, enc_get43, enc_get47, eqc_get81, eqc_get128, List.length_map, List.length_cons, List.all_cons, one_row, len_row, ba_beqL]
      refine hK9 _ _ ?_; try clear hK9 K9
      conv => enter [5]; simp only [setL_cons, setL_nil, List.set_cons_zero, List.set_cons_succ]
      refine AW.ret ⟨.inr rfl, _, rfl, by simp, ?_⟩ -- return 2
      refine frzB ?_
      unfold ProgM.right
      rw [hall]
      simp

set_option maxRecDepth 100000 in
set_option maxHeartbeats 1000000 in
theorem great_calls (p : ProgM) (hpk : p.ok) (htot : totN p.nodes ≤ 1100000) : APure prog Γ 40 [p.enc] (bool p.great) := by
  refine APure.of func40 rfl fun σ => ?_
  simp only [ntmps40, List.length_cons, List.length_nil, Nat.reduceAdd, Nat.reduceSub, List.replicate_succ, List.replicate_zero, List.cons_append, List.nil_append]
  have hl : p.nodes.length ≤ maxLen := by rw [maxLen_eq]; have := hpk.1; omega
  refine AW.regl false [1, 2] (by rfl) fun K1 hK1 => ?_ -- region 0
  simp only [go_sem, Nat.reduceAdd, Nat.reduceEqDiff, Nat.reduceLeDiff, true_and, ProgM.enc, NodeM.enc, EqM.enc, VarM.enc, enc_one, enc_len, enc_get43, enc_get47, eqc_get81, eqc_get128, List.length_map, List.length_cons, List.all_cons, one_row, len_row, ba_beqL, List.drop_succ_cons, List.drop_zero]
  refine hK1 _ _ ?_; try clear hK1 K1
  conv => enter [5]; simp only [setL_cons, setL_nil, List.set_cons_zero, List.set_cons_succ]
  refine AW.regl false [3] (by rfl) fun K2 hK2 => ?_ -- region 1
  simp only [go_sem, Nat.reduceAdd, Nat.reduceEqDiff, Nat.reduceLeDiff, true_and, ProgM.enc, NodeM.enc, EqM.enc, VarM.enc, enc_one, enc_len, enc_get43, enc_get47, eqc_get81, eqc_get128, List.length_map, List.length_cons, List.all_cons, one_row, len_row, ba_beqL, List.drop_succ_cons, List.drop_zero]
  refine hK2 _ _ ?_; try clear hK2 K2
  conv => enter [5]; simp only [setL_cons, setL_nil, List.set_cons_zero, List.set_cons_succ]
  refine AW.seq_k fun K3 hK3 => ?_
  refine AW.regl false [4] (by rfl) fun K4 hK4 => ?_ -- region 2
  simp only [go_sem, Nat.reduceAdd, Nat.reduceEqDiff, Nat.reduceLeDiff, true_and, ProgM.enc, NodeM.enc, EqM.enc, VarM.enc, enc_one, enc_len, enc_get43, enc_get47, eqc_get81, eqc_get128, List.length_map, List.length_cons, List.all_cons, one_row, len_row, ba_beqL, List.drop_succ_cons, List.drop_zero]
  refine hK4 _ _ ?_; try clear hK4 K4
  conv => enter [5]; simp only [setL_cons, setL_nil, List.set_cons_zero, List.set_cons_succ]
  refine AW.block ?_
  refine AW.loop_dr (α := Nat) (fun i => [.any, (.ref σ.length 0), .any, (.val (.int .i64 ((totN (p.nodes.take i) : Nat) : Int))), (.val (.int .i64 ((i : Nat) : Int))), .any, .any, .any, .any, .any, .any, .any, .any, .any, .any, .any, .any, .any, .any, .any, .any, .any, .any, .any, .any, .any, .any, .any, .any, .any, .any, .any, .any, .any, .any, .any, .any, .any, .any, .any, .any, .any, .any, .any, .any, .any, .any, .any, .any, .any, .any, .any, .any, .any, .any, .any, .any, .any, .any, .any, .any, .any, .any, .any, .any, .any, .any, .any, .any, .any, .any, .any, .any, .any, .any, .any, .any, .any, .any]) (fun i => σ ++ [.cells (ProgM.enc p).cells]) (fun i => p.nodes.length - i) (fun i => i ≤ p.nodes.length ∧ (p.nodes.take i).any NodeM.great = false) 0 ?_ ?_ ?_
  · exact ⟨⟨Nat.zero_le _, rfl⟩, by simp [Wk, totN], rfl⟩
  · exact fun y _ => ⟨by simp [belL, AV.bel], bel_app σ fun a ha => by
      simp only [List.mem_singleton] at ha
      subst ha
      exact prog_bel p _⟩
  · rintro i ⟨hi, hit⟩
    refine AW.seq_k fun K5 hK5 => ?_
    refine AW.regl false [11] (by rfl) fun K6 hK6 => ?_ -- region 3
    simp only [go_sem, Nat.reduceAdd, Nat.reduceEqDiff, Nat.reduceLeDiff, true_and, ProgM.enc, NodeM.enc, EqM.enc, VarM.enc, enc_one, enc_len, enc_get43, enc_get47, eqc_get81, eqc_get128, List.length_map, List.length_cons, List.all_cons, one_row, len_row, ba_beqL, List.drop_succ_cons, List.drop_zero]
    refine hK6 _ _ ?_; try clear hK6 K6
    conv => enter [5]; simp only [setL_cons, setL_nil, List.set_cons_zero, List.set_cons_succ]
    refine AW.cond rfl (fun hc11 => ?_) (fun hc11 => ?_)
    · skip
      have hi1 : i < p.nodes.length := by simpa using hc11
      obtain ⟨m, hm⟩ : ∃ z, z = p.nodes[i] := ⟨_, rfl⟩
      have hx : (p.nodes.map NodeM.enc)[i]? = some (NodeM.enc m) := by rw [hm, List.getElem?_map, List.getElem?_eq_getElem hi1]; rfl
      have hok : m.ok := hpk.2 m (by rw [hm]; exact mem_at hi1)
      have hle : m.eqs.length ≤ maxLen := by rw [maxLen_eq]; have := hok.2.2.2.2.1; omega
      have hsum : totN (p.nodes.take (i + 1)) = totN (p.nodes.take i) + totE m.eqs := by rw [hm]; exact sum_take (fun n : NodeM => totE n.eqs) hi1
      have hsle : totN (p.nodes.take (i + 1)) ≤ totN p.nodes := sum_le _ _ _
      refine AW.skip ?_
      refine hK5 _ _ ?_; try clear hK5 K5
      refine AW.seq_k fun K7 hK7 => ?_
      refine AW.block ?_
      refine AW.regl false [5] (by rfl) fun K8 hK8 => ?_ -- region 5
      simp only [go_sem, Nat.reduceAdd, Nat.reduceEqDiff, Nat.reduceLeDiff, true_and, ProgM.enc, NodeM.enc, EqM.enc, VarM.enc, enc_one, enc_len, enc_get43, enc_get47, eqc_get81, eqc_get128, List.length_map, List.length_cons, List.all_cons, one_row, len_row, ba_beqL, List.drop_succ_cons, List.drop_zero, at_row hx]
      refine hK8 _ _ ?_; try clear hK8 K8
      conv => enter [5]; simp only [setL_cons, setL_nil, List.set_cons_zero, List.set_cons_succ, upd_none, upd_at]
      refine AW.seq_k fun K9 hK9 => ?_
      refine AW.regcuts fun K10 hK10 => ?_ -- region 6
      refine AOps.cut false 10 28 (.val (.bool ((decide (((m.ins.length : Nat) : Int) > 40)) || (decide (((m.outs.length : Nat) : Int) > 40))))) (by rfl) ?_ ?_
      · skip
        cases h22 : ((decide (((m.ins.length : Nat) : Int) > 40)))
        · skip
          simp only [go_sem, Nat.reduceAdd, Nat.reduceEqDiff, Nat.reduceLeDiff, true_and, ProgM.enc, NodeM.enc, EqM.enc, VarM.enc, enc_one, enc_len, enc_get43, enc_get47, eqc_get81, eqc_get128, List.length_map, List.length_cons, List.all_cons, one_row, len_row, ba_beqL, List.drop_succ_cons, List.drop_zero, NodeM.big, List.take_succ_cons, List.take_zero, h22]
          try simp [upd_at, h22, ProgM.enc, NodeM.enc, EqM.enc, VarM.enc, enc_one, enc_len, enc_get43, enc_get47, eqc_get81, eqc_get128, List.length_map, List.length_cons, List.all_cons, one_row, len_row, ba_beqL, List.drop_succ_cons, List.drop_zero, NodeM.big]
        · skip
          simp only [go_sem, Nat.reduceAdd, Nat.reduceEqDiff, Nat.reduceLeDiff, true_and, ProgM.enc, NodeM.enc, EqM.enc, VarM.enc, enc_one, enc_len, enc_get43, enc_get47, eqc_get81, eqc_get128, List.length_map, List.length_cons, List.all_cons, one_row, len_row, ba_beqL, List.drop_succ_cons, List.drop_zero, NodeM.big, List.take_succ_cons, List.take_zero, h22]
          try simp [upd_at, h22, ProgM.enc, NodeM.enc, EqM.enc, VarM.enc, enc_one, enc_len, enc_get43, enc_get47, eqc_get81, eqc_get128, List.length_map, List.length_cons, List.all_cons, one_row, len_row, ba_beqL, List.drop_succ_cons, List.drop_zero, NodeM.big]
      simp only [List.drop_succ_cons, List.drop_zero, List.set_cons_zero, List.set_cons_succ]
      refine AOps.cut false 6 34 (.val (.bool (((decide (((m.ins.length : Nat) : Int) > 40)) || (decide (((m.outs.length : Nat) : Int) > 40))) || (decide (((m.locals.length : Nat) : Int) > 40))))) (by rfl) ?_ ?_
      · skip
        cases h28 : (((decide (((m.ins.length : Nat) : Int) > 40)) || (decide (((m.outs.length : Nat) : Int) > 40))))
        · skip
          simp only [go_sem, Nat.reduceAdd, Nat.reduceEqDiff, Nat.reduceLeDiff, true_and, ProgM.enc, NodeM.enc, EqM.enc, VarM.enc, enc_one, enc_len, enc_get43, enc_get47, eqc_get81, eqc_get128, List.length_map, List.length_cons, List.all_cons, one_row, len_row, ba_beqL, List.drop_succ_cons, List.drop_zero, NodeM.big, List.take_succ_cons, List.take_zero, h28]
          try simp [upd_at, h28, ProgM.enc, NodeM.enc, EqM.enc, VarM.enc, enc_one, enc_len, enc_get43, enc_get47, eqc_get81, eqc_get128, List.length_map, List.length_cons, List.all_cons, one_row, len_row, ba_beqL, List.drop_succ_cons, List.drop_zero, NodeM.big]
        · skip
          simp only [go_sem, Nat.reduceAdd, Nat.reduceEqDiff, Nat.reduceLeDiff, true_and, ProgM.enc, NodeM.enc, EqM.enc, VarM.enc, enc_one, enc_len, enc_get43, enc_get47, eqc_get81, eqc_get128, List.length_map, List.length_cons, List.all_cons, one_row, len_row, ba_beqL, List.drop_succ_cons, List.drop_zero, NodeM.big, List.take_succ_cons, List.take_zero, h28]
          try simp [upd_at, h28, ProgM.enc, NodeM.enc, EqM.enc, VarM.enc, enc_one, enc_len, enc_get43, enc_get47, eqc_get81, eqc_get128, List.length_map, List.length_cons, List.all_cons, one_row, len_row, ba_beqL, List.drop_succ_cons, List.drop_zero, NodeM.big]
      simp only [List.drop_succ_cons, List.drop_zero, List.set_cons_zero, List.set_cons_succ]
      refine AOps.cut false 6 40 (.val (.bool ((((decide (((m.ins.length : Nat) : Int) > 40)) || (decide (((m.outs.length : Nat) : Int) > 40))) || (decide (((m.locals.length : Nat) : Int) > 40))) || (decide (((m.eqs.length : Nat) : Int) > 40))))) (by rfl) ?_ ?_
      · skip
        cases h34 : ((((decide (((m.ins.length : Nat) : Int) > 40)) || (decide (((m.outs.length : Nat) : Int) > 40))) || (decide (((m.locals.length : Nat) : Int) > 40))))
        · skip
          simp only [go_sem, Nat.reduceAdd, Nat.reduceEqDiff, Nat.reduceLeDiff, true_and, ProgM.enc, NodeM.enc, EqM.enc, VarM.enc, enc_one, enc_len, enc_get43, enc_get47, eqc_get81, eqc_get128, List.length_map, List.length_cons, List.all_cons, one_row, len_row, ba_beqL, List.drop_succ_cons, List.drop_zero, NodeM.big, List.take_succ_cons, List.take_zero, h34]
          try simp [upd_at, h34, ProgM.enc, NodeM.enc, EqM.enc, VarM.enc, enc_one, enc_len, enc_get43, enc_get47, eqc_get81, eqc_get128, List.length_map, List.length_cons, List.all_cons, one_row, len_row, ba_beqL, List.drop_succ_cons, List.drop_zero, NodeM.big]
        · skip
          simp only [go_sem, Nat.reduceAdd, Nat.reduceEqDiff, Nat.reduceLeDiff, true_and, ProgM.enc, NodeM.enc, EqM.enc, VarM.enc, enc_one, enc_len, enc_get43, enc_get47, eqc_get81, eqc_get128, List.length_map, List.length_cons, List.all_cons, one_row, len_row, ba_beqL, List.drop_succ_cons, List.drop_zero, NodeM.big, List.take_succ_cons, List.take_zero, h34]
          try simp [upd_at, h34, ProgM.enc, NodeM.enc, EqM.enc, VarM.enc, enc_one, enc_len, enc_get43, enc_get47, eqc_get81, eqc_get128, List.length_map, List.length_cons, List.all_cons, one_row, len_row, ba_beqL, List.drop_succ_cons, List.drop_zero, NodeM.big]
      simp only [List.drop_succ_cons, List.drop_zero, List.set_cons_zero, List.set_cons_succ]
      refine AOps.cut false 6 46 (.val (.bool (m.big))) (by rfl) ?_ ?_
      · skip
        cases h40 : (((((decide (((m.ins.length : Nat) : Int) > 40)) || (decide (((m.outs.length : Nat) : Int) > 40))) || (decide (((m.locals.length : Nat) : Int) > 40))) || (decide (((m.eqs.length : Nat) : Int) > 40))))
        · skip
          simp only [go_sem, Nat.reduceAdd, Nat.reduceEqDiff, Nat.reduceLeDiff, true_and, ProgM.enc, NodeM.enc, EqM.enc, VarM.enc, enc_one, enc_len, enc_get43, enc_get47, eqc_get81, eqc_get128, List.length_map, List.length_cons, List.all_cons, one_row, len_row, ba_beqL, List.drop_succ_cons, List.drop_zero, NodeM.big, List.take_succ_cons, List.take_zero, h40]
          try simp [upd_at, h40, ProgM.enc, NodeM.enc, EqM.enc, VarM.enc, enc_one, enc_len, enc_get43, enc_get47, eqc_get81, eqc_get128, List.length_map, List.length_cons, List.all_cons, one_row, len_row, ba_beqL, List.drop_succ_cons, List.drop_zero, NodeM.big]
        · skip
          simp only [go_sem, Nat.reduceAdd, Nat.reduceEqDiff, Nat.reduceLeDiff, true_and, ProgM.enc, NodeM.enc, EqM.enc, VarM.enc, enc_one, enc_len, enc_get43, enc_get47, eqc_get81, eqc_get128, List.length_map, List.length_cons, List.all_cons, one_row, len_row, ba_beqL, List.drop_succ_cons, List.drop_zero, NodeM.big, List.take_succ_cons, List.take_zero, h40]
          try simp [upd_at, h40, ProgM.enc, NodeM.enc, EqM.enc, VarM.enc, enc_one, enc_len, enc_get43, enc_get47, eqc_get81, eqc_get128, List.length_map, List.length_cons, List.all_cons, one_row, len_row, ba_beqL, List.drop_succ_cons, List.drop_zero, NodeM.big]
      simp only [List.drop_succ_cons, List.drop_zero, List.set_cons_zero, List.set_cons_succ]
      refine AOps.nil (hK10 _ _ ?_); try clear hK10 K10
      refine AW.cond rfl (fun hc46 => ?_) (fun hc46 => ?_)
      · skip
        refine AW.regl false [2] (by rfl) fun K11 hK11 => ?_ -- region 7
        simp only [go_sem, Nat.reduceAdd, Nat.reduceEqDiff, Nat.reduceLeDiff, true_and, ProgM.enc, NodeM.enc, EqM.enc, VarM.enc, enc_one, enc_len, enc_get43, enc_get47, eqc_get81, eqc_get128, List.length_map, List.length_cons, List.all_cons, one_row, len_row, ba_beqL, List.drop_succ_cons, List.drop_zero]
        refine hK11 _ _ ?_; try clear hK11 K11
        conv => enter [5]; simp only [setL_cons, setL_nil, List.set_cons_zero, List.set_cons_succ]
        refine AW.ret ⟨.inr rfl, _, rfl, by simp, ?_⟩ -- return 1
        refine frzB ?_
        unfold ProgM.great
        rw [any_at hi1 (p := NodeM.great) (by rw [← hm]; simp [NodeM.great, hc46])]
        rfl
      · skip
        refine AW.skip ?_
        refine hK9 _ _ ?_; try clear hK9 K9
        refine AW.regl false [6] (by rfl) fun K12 hK12 => ?_ -- region 8
        simp only [go_sem, Nat.reduceAdd, Nat.reduceEqDiff, Nat.reduceLeDiff, true_and, ProgM.enc, NodeM.enc, EqM.enc, VarM.enc, enc_one, enc_len, enc_get43, enc_get47, eqc_get81, eqc_get128, List.length_map, List.length_cons, List.all_cons, one_row, len_row, ba_beqL, List.drop_succ_cons, List.drop_zero]
        refine hK12 _ _ ?_; try clear hK12 K12
        conv => enter [5]; simp only [setL_cons, setL_nil, List.set_cons_zero, List.set_cons_succ]
        refine AW.block ?_
        refine AW.loop_wk (α := Nat) (fun j => [.any, (.ref σ.length 0), .any, (.val (.int .i64 ((totN (p.nodes.take i) + totE (m.eqs.take j) : Nat) : Int))), (.val (.int .i64 ((i : Nat) : Int))), (.ref (σ.length + 1) 0), (.val (.int .i64 ((j : Nat) : Int))), .any, .any, .any, .any, .any, .any, .any, .any, .any, .any, .any, .any, .any, .any, .any, .any, .any, .any, .any, .any, .any, .any, .any, .any, .any, .any, .any, .any, .any, .any, .any, .any, .any, .any, .any, .any, .any, .any, .any, .any, .any, .any, .any, .any, .any, .any, .any, .any, .any, .any, .any, .any, .any, .any, .any, .any, .any, .any, .any, .any, .any, .any, .any, .any, .any, .any, .any, .any, .any, .any, .any, .any]) (fun j => σ ++ [.cells (ProgM.enc p).cells, .cells (NodeM.enc m).cells]) (fun j => m.eqs.length - j) (fun j => j ≤ m.eqs.length ∧ (m.eqs.take j).any EqM.big = false) 0 ?_ ?_
        · exact ⟨⟨Nat.zero_le _, rfl⟩, by simp [Wk, totE], rfl⟩
        · rintro j ⟨hj, hjt⟩
          refine AW.seq_k fun K13 hK13 => ?_
          refine AW.regl false [51] (by rfl) fun K14 hK14 => ?_ -- region 9
          simp only [go_sem, Nat.reduceAdd, Nat.reduceEqDiff, Nat.reduceLeDiff, true_and, ProgM.enc, NodeM.enc, EqM.enc, VarM.enc, enc_one, enc_len, enc_get43, enc_get47, eqc_get81, eqc_get128, List.length_map, List.length_cons, List.all_cons, one_row, len_row, ba_beqL, List.drop_succ_cons, List.drop_zero]
          refine hK14 _ _ ?_; try clear hK14 K14
          conv => enter [5]; simp only [setL_cons, setL_nil, List.set_cons_zero, List.set_cons_succ]
          refine AW.cond rfl (fun hc51 => ?_) (fun hc51 => ?_)
          · skip
            have hj1 : j < m.eqs.length := by simpa using hc51
            obtain ⟨u, hu0⟩ : ∃ z, z = m.eqs[j] := ⟨_, rfl⟩
            have hy : (m.eqs.map EqM.enc)[j]? = some (.agg (rowAV 1 u.nl (u.lhs.map str) :: u.rhs.enc.cells)) := by rw [hu0, List.getElem?_map, List.getElem?_eq_getElem hj1]; rfl
            have hu : u.ok := hok.2.2.2.2.2 u (by rw [hu0]; exact mem_at hj1)
            have hs2 : totE (m.eqs.take (j + 1)) = totE (m.eqs.take j) + u.rhs.size := by rw [hu0]; exact sum_take (fun q : EqM => q.rhs.size) hj1
            have hs3 : totE (m.eqs.take (j + 1)) ≤ totE m.eqs := sum_le _ _ _
            have hw := wrap_add (a := totN (p.nodes.take i) + totE (m.eqs.take j)) (b := u.rhs.size) (c := totN (p.nodes.take i) + totE (m.eqs.take (j + 1))) (by omega) (by omega)
            push_cast at hw
            refine AW.skip ?_
            refine hK13 _ _ ?_; try clear hK13 K13
            refine AW.seq_k fun K15 hK15 => ?_
            refine AW.block ?_
            refine AW.seq_k fun K16 hK16 => ?_
            refine AW.regl false [61] (by rfl) fun K17 hK17 => ?_ -- region 11
            simp only [go_sem, Nat.reduceAdd, Nat.reduceEqDiff, Nat.reduceLeDiff, true_and, ProgM.enc, NodeM.enc, EqM.enc, VarM.enc, enc_one, enc_len, enc_get43, enc_get47, eqc_get81, eqc_get128, List.length_map, List.length_cons, List.all_cons, one_row, len_row, ba_beqL, List.drop_succ_cons, List.drop_zero, at_row hy]
            refine hK17 _ _ ?_; try clear hK17 K17
            conv => enter [5]; simp only [setL_cons, setL_nil, List.set_cons_zero, List.set_cons_succ]
            refine AW.cond rfl (fun hc61 => ?_) (fun hc61 => ?_)
            · skip
              refine AW.regl false [2] (by rfl) fun K18 hK18 => ?_ -- region 12
              simp only [go_sem, Nat.reduceAdd, Nat.reduceEqDiff, Nat.reduceLeDiff, true_and, ProgM.enc, NodeM.enc, EqM.enc, VarM.enc, enc_one, enc_len, enc_get43, enc_get47, eqc_get81, eqc_get128, List.length_map, List.length_cons, List.all_cons, one_row, len_row, ba_beqL, List.drop_succ_cons, List.drop_zero]
              refine hK18 _ _ ?_; try clear hK18 K18
              conv => enter [5]; simp only [setL_cons, setL_nil, List.set_cons_zero, List.set_cons_succ]
              refine AW.ret ⟨.inr rfl, _, rfl, by simp, ?_⟩ -- return 2
              refine frzB ?_
              unfold ProgM.great
              rw [any_at hi1 (p := NodeM.great) (by rw [← hm]; simp [NodeM.great, any_at hj1 (p := EqM.big) (by rw [← hu0]; exact hc61)])]
              rfl
            · skip
              refine AW.skip ?_
              refine hK16 _ _ ?_; try clear hK16 K16
              refine AW.lastl false [3] (by rfl) fun K hK => ?_ -- region 13
              simp only [go_sem, Nat.reduceAdd, Nat.reduceEqDiff, Nat.reduceLeDiff, true_and, ProgM.enc, NodeM.enc, EqM.enc, VarM.enc, enc_one, enc_len, enc_get43, enc_get47, eqc_get81, eqc_get128, List.length_map, List.length_cons, List.all_cons, one_row, len_row, ba_beqL, List.drop_succ_cons, List.drop_zero, at_row hy]
              refine sC.of en11 ((rsize_calls u.rhs (by have := hu.2.1; omega)).on _).here (by rfl) ?_
              simp only [go_sem, Nat.reduceAdd, Nat.reduceEqDiff, Nat.reduceLeDiff, true_and, ProgM.enc, NodeM.enc, EqM.enc, VarM.enc, enc_one, enc_len, enc_get43, enc_get47, eqc_get81, eqc_get128, List.length_map, List.length_cons, List.all_cons, one_row, len_row, ba_beqL, List.drop_succ_cons, List.drop_zero, at_row hy]
              refine hK _ _ fun env' hw => ?_
              simp only [setL_cons, setL_nil, List.set_cons_zero, List.set_cons_succ] at hw
              refine hK15 _ _ (AW.weaken hw ?_); clear hw; try clear hK15 K15
              refine AW.lastl false [6] (by rfl) fun K hK => ?_ -- region 10
              simp only [go_sem, Nat.reduceAdd, Nat.reduceEqDiff, Nat.reduceLeDiff, true_and, ProgM.enc, NodeM.enc, EqM.enc, VarM.enc, enc_one, enc_len, enc_get43, enc_get47, eqc_get81, eqc_get128, List.length_map, List.length_cons, List.all_cons, one_row, len_row, ba_beqL, List.drop_succ_cons, List.drop_zero]
              refine hK _ _ fun env' hw => ?_
              simp only [setL_cons, setL_nil, List.set_cons_zero, List.set_cons_succ] at hw
              refine ⟨j + 1, by omega, ⟨by omega, any_step hj1 hjt (by rw [← hu0]; exact hc61)⟩, ?_, rfl⟩
              refine hw.trans ?_
              simp [Wk, wrap_succ hj1 hle, hw]
              try omega
          · skip
            have hj1 : j = m.eqs.length := by
              have : ¬ j < m.eqs.length := by simpa using hc51
              omega
            have hall2 := any_end (by omega) hjt
            have hgood : NodeM.great m = false := by simp [NodeM.great, hc46, hall2]
            rw [hj1, List.take_length]
            refine AW.exit ?_
            refine hK7 _ _ ?_; try clear hK7 K7
            refine AW.lastl false [4] (by rfl) fun K hK => ?_ -- region 4
            simp only [go_sem, Nat.reduceAdd, Nat.reduceEqDiff, Nat.reduceLeDiff, true_and, ProgM.enc, NodeM.enc, EqM.enc, VarM.enc, enc_one, enc_len, enc_get43, enc_get47, eqc_get81, eqc_get128, List.length_map, List.length_cons, List.all_cons, one_row, len_row, ba_beqL, List.drop_succ_cons, List.drop_zero]
            refine hK _ _ fun env' hw => ?_
            simp only [setL_cons, setL_nil, List.set_cons_zero, List.set_cons_succ] at hw
            refine ⟨i + 1, by omega, ⟨by omega, any_step hi1 hit (by rw [← hm]; exact hgood)⟩, ?_, by first | rfl | (simp [List.take_append, List.take_of_length_le]; done) | (simp [List.take_append, List.take_of_length_le]; repeat' constructor)⟩
            refine hw.trans ?_
            simp [Wk, wrap_succ hi1 hl]
            try omega
    · skip
      have hi1 : i = p.nodes.length := by
        have : ¬ i < p.nodes.length := by simpa using hc11
        omega
      have hall := any_end (by omega) hit
      refine AW.exit ?_
      refine hK3 _ _ ?_; try clear hK3 K3
      refine AW.regtf false 2 (.val (.bool ((decide (((p.nodes.length : Nat) : Int) > 12)) || (decide (((totN (p.nodes.take i) : Nat) : Int) > 300))))) (by rfl) ?_ ?_ -- region 14
      · skip
        cases h74 : ((decide (((p.nodes.length : Nat) : Int) > 12)))
        · skip
          simp only [go_sem, Nat.reduceAdd, Nat.reduceEqDiff, Nat.reduceLeDiff, true_and, ProgM.enc, NodeM.enc, EqM.enc, VarM.enc, enc_one, enc_len, enc_get43, enc_get47, eqc_get81, eqc_get128, List.length_map, List.length_cons, List.all_cons, one_row, len_row, ba_beqL, List.drop_succ_cons, List.drop_zero, h74]
          try simp [upd_at, h74, ProgM.enc, NodeM.enc, EqM.enc, VarM.enc, enc_one, enc_len, enc_get43, enc_get47, eqc_get81, eqc_get128, List.length_map, List.length_cons, List.all_cons, one_row, len_row, ba_beqL, List.drop_succ_cons, List.drop_zero]
        · skip
          simp only [go_sem, Nat.reduceAdd, Nat.reduceEqDiff, Nat.reduceLeDiff, true_and, ProgM.enc, NodeM.enc, EqM.enc, VarM.enc, enc_one, enc_len, enc_get43, enc_get47, eqc_get81, eqc_get128, List.length_map, List.length_cons, List.all_cons, one_row, len_row, ba_beqL, List.drop_succ_cons, List.drop_zero, h74]
          try simp [upd_at, h74, ProgM.enc, NodeM.enc, EqM.enc, VarM.enc, enc_one, enc_len, enc_get43, enc_get47, eqc_get81, eqc_get128, List.length_map, List.length_cons, List.all_cons, one_row, len_row, ba_beqL, List.drop_succ_cons, List.drop_zero]
      conv => enter [5]; simp only [List.set_cons_zero, List.set_cons_succ]
      refine AW.ret ⟨.inr rfl, _, rfl, by simp, ?_⟩ -- return 3
      refine frzB ?_
      unfold ProgM.great
      rw [hall, hi1, List.take_length]
      rfl

set_option maxRecDepth 100000 in
theorem equal98 {α κ : Type} [DecidableEq κ] (en : α → AV) (key : α → κ) (hen : ∀ a, aGet prog 160 (en a).cells = some (en a)) (hneq : ∀ a b, aBin prog .neq 160 (en a) (en b) = some (.val (.bool !decide (key a = key b)))) (nl nl' : Bool) (l l' : List α) (hl : l.length ≤ maxLen) : APure prog Γ 98 [rowAV 2 nl (l.map en), rowAV 2 nl' (l'.map en)] (.val (.bool (decide (l.map key = l'.map key)))) := by
  refine APure.of func98 rfl fun σ => ?_
  simp only [ntmps98, List.length_cons, List.length_nil, Nat.reduceAdd, Nat.reduceSub, List.replicate_succ, List.replicate_zero, List.cons_append, List.nil_append]
  refine AW.regl false [4] (by rfl) fun K1 hK1 => ?_ -- region 0
  simp only [go_sem, Nat.reduceAdd, Nat.reduceEqDiff, Nat.reduceLeDiff, true_and, List.length_map, hen]
  refine hK1 _ _ ?_; try clear hK1 K1
  conv => enter [5]; simp only [setL_cons, setL_nil, List.set_cons_zero, List.set_cons_succ]
  refine AW.seq_k fun K2 hK2 => ?_
  refine AW.regl false [10] (by rfl) fun K3 hK3 => ?_ -- region 1
  simp only [go_sem, Nat.reduceAdd, Nat.reduceEqDiff, Nat.reduceLeDiff, true_and, List.length_map, hen]
  refine hK3 _ _ ?_; try clear hK3 K3
  conv => enter [5]; simp only [setL_cons, setL_nil, List.set_cons_zero, List.set_cons_succ]
  refine AW.cond rfl (fun hc10 => ?_) (fun hc10 => ?_)
  · skip
    refine AW.regl false [4] (by rfl) fun K4 hK4 => ?_ -- region 2
    simp only [go_sem, Nat.reduceAdd, Nat.reduceEqDiff, Nat.reduceLeDiff, true_and, List.length_map, hen]
    refine hK4 _ _ ?_; try clear hK4 K4
    conv => enter [5]; simp only [setL_cons, setL_nil, List.set_cons_zero, List.set_cons_succ]
    refine AW.ret ⟨.inr rfl, _, rfl, by simp, ?_⟩ -- return 1
    refine frzB ?_
    refine (decide_eq_false fun e => ?_).symm
    have := map_len e
    simp [this] at hc10
  · skip
    have hl0 : l.length = l'.length := by
      have : (l.length : Int) = l'.length := by simpa using hc10
      omega
    refine AW.skip ?_
    refine hK2 _ _ ?_; try clear hK2 K2
    refine AW.seq_k fun K5 hK5 => ?_
    refine AW.regl false [12, 13] (by rfl) fun K6 hK6 => ?_ -- region 3
    simp only [go_sem, Nat.reduceAdd, Nat.reduceEqDiff, Nat.reduceLeDiff, true_and, List.length_map, hen]
    refine hK6 _ _ ?_; try clear hK6 K6
    conv => enter [5]; simp only [setL_cons, setL_nil, List.set_cons_zero, List.set_cons_succ]
    refine AW.block ?_
    refine AW.loop_wk (α := Nat) (fun i => [(rowAV 2 nl (l.map en)), (rowAV 2 nl' (l'.map en)), .any, .any, .any, .any, .any, .any, .any, .any, .any, .any, (.val (.int .i64 (l.length : Nat))), (.val (.int .i64 (i : Nat))), .any, .any, .any, .any, .any, .any, .any, .any, .any, .any, .any, .any]) (fun i => σ) (fun i => l.length - i) (fun i => i ≤ l.length ∧ (l.take i).map key = (l'.take i).map key) 0 ?_ ?_
    · exact ⟨⟨Nat.zero_le _, rfl⟩, by simp [Wk], rfl⟩
    · rintro i ⟨hi, hit⟩
      refine AW.regl false [14] (by rfl) fun K7 hK7 => ?_ -- region 4
      simp only [go_sem, Nat.reduceAdd, Nat.reduceEqDiff, Nat.reduceLeDiff, true_and, List.length_map, hen]
      refine hK7 _ _ ?_; try clear hK7 K7
      conv => enter [5]; simp only [setL_cons, setL_nil, List.set_cons_zero, List.set_cons_succ]
      refine AW.seq_k fun K8 hK8 => ?_
      refine AW.cond rfl (fun hc14 => ?_) (fun hc14 => ?_)
      · skip
        have hi1 : i < l.length := by simpa using hc14
        have hi2 : i < l'.length := by rw [← hl0]; exact hi1
        obtain ⟨u, hu⟩ : ∃ z, z = l[i] := ⟨_, rfl⟩
        obtain ⟨v, hv⟩ : ∃ z, z = l'[i] := ⟨_, rfl⟩
        have gu : (l.map en)[i]? = some (en u) := by rw [hu]; simp [hi1]
        have gv : (l'.map en)[i]? = some (en v) := by rw [hv]; simp [hi2]
        refine AW.skip ?_
        refine hK8 _ _ ?_; try clear hK8 K8
        refine AW.seq_k fun K9 hK9 => ?_
        refine AW.block ?_
        refine AW.regl false [5] (by rfl) fun K10 hK10 => ?_ -- region 5
        simp only [go_sem, Nat.reduceAdd, Nat.reduceEqDiff, Nat.reduceLeDiff, true_and, List.length_map, hen]
        refine hK10 _ _ ?_; try clear hK10 K10
        conv => enter [5]; simp only [setL_cons, setL_nil, List.set_cons_zero, List.set_cons_succ]
        refine AW.regdl mixed false [24] (by kernel_rfl) (by rfl) fun K11 hK11 => ?_ -- region 6
        simp only [go_sem, Nat.reduceAdd, Nat.reduceEqDiff, Nat.reduceLeDiff, true_and, List.length_map, hen, at_row gu, at_row gv, hneq]
        refine hK11 _ ?_; try clear hK11 K11
        conv => enter [5]; simp only [setL_cons, setL_nil, List.set_cons_zero, List.set_cons_succ]
        refine AW.cond rfl (fun hc24 => ?_) (fun hc24 => ?_)
        · skip
          refine AW.regl false [4] (by rfl) fun K12 hK12 => ?_ -- region 7
          simp only [go_sem, Nat.reduceAdd, Nat.reduceEqDiff, Nat.reduceLeDiff, true_and, List.length_map, hen]
          refine hK12 _ _ ?_; try clear hK12 K12
          conv => enter [5]; simp only [setL_cons, setL_nil, List.set_cons_zero, List.set_cons_succ]
          refine AW.ret ⟨.inr rfl, _, rfl, by simp, ?_⟩ -- return 2
          refine frzB ?_
          exact (decide_eq_false (eq_at hi1 hi2 (by rw [← hu, ← hv]; exact not_dec hc24))).symm
        · skip
          refine AW.skip ?_
          refine hK9 _ _ ?_; try clear hK9 K9
          refine AW.lastl false [13] (by rfl) fun K hK => ?_ -- region 8
          simp only [go_sem, Nat.reduceAdd, Nat.reduceEqDiff, Nat.reduceLeDiff, true_and, List.length_map, hen]
          refine hK _ _ fun env' hw => ?_
          simp only [setL_cons, setL_nil, List.set_cons_zero, List.set_cons_succ] at hw
          refine ⟨i + 1, by omega, ⟨by omega, eq_step hi1 hi2 hit (by rw [← hu, ← hv]; exact dec_of hc24)⟩, ?_, rfl⟩
          refine hw.trans ?_
          simp [Wk, wrap_succ hi1 hl]
      · skip
        have hi1 : ¬ i < l.length := by simpa using hc14
        have hZ := eq_end hi1 hl0 hit
        refine AW.exit ?_
        refine hK5 _ _ ?_; try clear hK5 K5
        refine AW.regl false [4] (by rfl) fun K13 hK13 => ?_ -- region 9
        simp only [go_sem, Nat.reduceAdd, Nat.reduceEqDiff, Nat.reduceLeDiff, true_and, List.length_map, hen]
        refine hK13 _ _ ?_; try clear hK13 K13
        conv => enter [5]; simp only [setL_cons, setL_nil, List.set_cons_zero, List.set_cons_succ]
        refine AW.ret ⟨.inr rfl, _, rfl, by simp, ?_⟩ -- return 3
        refine frzB ?_
        exact (decide_eq_true hZ).symm

set_option maxRecDepth 100000 in
theorem equal110 {α κ : Type} [DecidableEq κ] (en : α → AV) (key : α → κ) (hen : ∀ a, aGet prog 9 (en a).cells = some (en a)) (hneq : ∀ a b, aBin prog .neq 9 (en a) (en b) = some (.val (.bool !decide (key a = key b)))) (nl nl' : Bool) (l l' : List α) (hl : l.length ≤ maxLen) : APure prog Γ 110 [rowAV 1 nl (l.map en), rowAV 1 nl' (l'.map en)] (.val (.bool (decide (l.map key = l'.map key)))) := by
  refine APure.of func110 rfl fun σ => ?_
  simp only [ntmps110, List.length_cons, List.length_nil, Nat.reduceAdd, Nat.reduceSub, List.replicate_succ, List.replicate_zero, List.cons_append, List.nil_append]
  refine AW.regl false [4] (by rfl) fun K1 hK1 => ?_ -- region 0
  simp only [go_sem, Nat.reduceAdd, Nat.reduceEqDiff, Nat.reduceLeDiff, true_and, List.length_map, hen]
  refine hK1 _ _ ?_; try clear hK1 K1
  conv => enter [5]; simp only [setL_cons, setL_nil, List.set_cons_zero, List.set_cons_succ]
  refine AW.seq_k fun K2 hK2 => ?_
  refine AW.regl false [10] (by rfl) fun K3 hK3 => ?_ -- region 1
  simp only [go_sem, Nat.reduceAdd, Nat.reduceEqDiff, Nat.reduceLeDiff, true_and, List.length_map, hen]
  refine hK3 _ _ ?_; try clear hK3 K3
  conv => enter [5]; simp only [setL_cons, setL_nil, List.set_cons_zero, List.set_cons_succ]
  refine AW.cond rfl (fun hc10 => ?_) (fun hc10 => ?_)
  · skip
    refine AW.regl false [4] (by rfl) fun K4 hK4 => ?_ -- region 2
    simp only [go_sem, Nat.reduceAdd, Nat.reduceEqDiff, Nat.reduceLeDiff, true_and, List.length_map, hen]
    refine hK4 _ _ ?_; try clear hK4 K4
    conv => enter [5]; simp only [setL_cons, setL_nil, List.set_cons_zero, List.set_cons_succ]
    refine AW.ret ⟨.inr rfl, _, rfl, by simp, ?_⟩ -- return 1
    refine frzB ?_
    refine (decide_eq_false fun e => ?_).symm
    have := map_len e
    simp [this] at hc10
  · skip
    have hl0 : l.length = l'.length := by
      have : (l.length : Int) = l'.length := by simpa using hc10
      omega
    refine AW.skip ?_
    refine hK2 _ _ ?_; try clear hK2 K2
    refine AW.seq_k fun K5 hK5 => ?_
    refine AW.regl false [12, 13] (by rfl) fun K6 hK6 => ?_ -- region 3
    simp only [go_sem, Nat.reduceAdd, Nat.reduceEqDiff, Nat.reduceLeDiff, true_and, List.length_map, hen]
    refine hK6 _ _ ?_; try clear hK6 K6
    conv => enter [5]; simp only [setL_cons, setL_nil, List.set_cons_zero, List.set_cons_succ]
    refine AW.block ?_
    refine AW.loop_wk (α := Nat) (fun i => [(rowAV 1 nl (l.map en)), (rowAV 1 nl' (l'.map en)), .any, .any, .any, .any, .any, .any, .any, .any, .any, .any, (.val (.int .i64 (l.length : Nat))), (.val (.int .i64 (i : Nat))), .any, .any, .any, .any, .any, .any, .any, .any, .any, .any, .any, .any]) (fun i => σ) (fun i => l.length - i) (fun i => i ≤ l.length ∧ (l.take i).map key = (l'.take i).map key) 0 ?_ ?_
    · exact ⟨⟨Nat.zero_le _, rfl⟩, by simp [Wk], rfl⟩
    · rintro i ⟨hi, hit⟩
      refine AW.regl false [14] (by rfl) fun K7 hK7 => ?_ -- region 4
      simp only [go_sem, Nat.reduceAdd, Nat.reduceEqDiff, Nat.reduceLeDiff, true_and, List.length_map, hen]
      refine hK7 _ _ ?_; try clear hK7 K7
      conv => enter [5]; simp only [setL_cons, setL_nil, List.set_cons_zero, List.set_cons_succ]
      refine AW.seq_k fun K8 hK8 => ?_
      refine AW.cond rfl (fun hc14 => ?_) (fun hc14 => ?_)
      · skip
        have hi1 : i < l.length := by simpa using hc14
        have hi2 : i < l'.length := by rw [← hl0]; exact hi1
        obtain ⟨u, hu⟩ : ∃ z, z = l[i] := ⟨_, rfl⟩
        obtain ⟨v, hv⟩ : ∃ z, z = l'[i] := ⟨_, rfl⟩
        have gu : (l.map en)[i]? = some (en u) := by rw [hu]; simp [hi1]
        have gv : (l'.map en)[i]? = some (en v) := by rw [hv]; simp [hi2]
        refine AW.skip ?_
        refine hK8 _ _ ?_; try clear hK8 K8
        refine AW.seq_k fun K9 hK9 => ?_
        refine AW.block ?_
        refine AW.regl false [5] (by rfl) fun K10 hK10 => ?_ -- region 5
        simp only [go_sem, Nat.reduceAdd, Nat.reduceEqDiff, Nat.reduceLeDiff, true_and, List.length_map, hen]
        refine hK10 _ _ ?_; try clear hK10 K10
        conv => enter [5]; simp only [setL_cons, setL_nil, List.set_cons_zero, List.set_cons_succ]
        refine AW.regdl mixed false [24] (by kernel_rfl) (by rfl) fun K11 hK11 => ?_ -- region 6
        simp only [go_sem, Nat.reduceAdd, Nat.reduceEqDiff, Nat.reduceLeDiff, true_and, List.length_map, hen, at_row gu, at_row gv, hneq]
        refine hK11 _ ?_; try clear hK11 K11
        conv => enter [5]; simp only [setL_cons, setL_nil, List.set_cons_zero, List.set_cons_succ]
        refine AW.cond rfl (fun hc24 => ?_) (fun hc24 => ?_)
        · skip
          refine AW.regl false [4] (by rfl) fun K12 hK12 => ?_ -- region 7
          simp only [go_sem, Nat.reduceAdd, Nat.reduceEqDiff, Nat.reduceLeDiff, true_and, List.length_map, hen]
          refine hK12 _ _ ?_; try clear hK12 K12
          conv => enter [5]; simp only [setL_cons, setL_nil, List.set_cons_zero, List.set_cons_succ]
          refine AW.ret ⟨.inr rfl, _, rfl, by simp, ?_⟩ -- return 2
          refine frzB ?_
          exact (decide_eq_false (eq_at hi1 hi2 (by rw [← hu, ← hv]; exact not_dec hc24))).symm
        · skip
          refine AW.skip ?_
          refine hK9 _ _ ?_; try clear hK9 K9
          refine AW.lastl false [13] (by rfl) fun K hK => ?_ -- region 8
          simp only [go_sem, Nat.reduceAdd, Nat.reduceEqDiff, Nat.reduceLeDiff, true_and, List.length_map, hen]
          refine hK _ _ fun env' hw => ?_
          simp only [setL_cons, setL_nil, List.set_cons_zero, List.set_cons_succ] at hw
          refine ⟨i + 1, by omega, ⟨by omega, eq_step hi1 hi2 hit (by rw [← hu, ← hv]; exact dec_of hc24)⟩, ?_, rfl⟩
          refine hw.trans ?_
          simp [Wk, wrap_succ hi1 hl]
      · skip
        have hi1 : ¬ i < l.length := by simpa using hc14
        have hZ := eq_end hi1 hl0 hit
        refine AW.exit ?_
        refine hK5 _ _ ?_; try clear hK5 K5
        refine AW.regl false [4] (by rfl) fun K13 hK13 => ?_ -- region 9
        simp only [go_sem, Nat.reduceAdd, Nat.reduceEqDiff, Nat.reduceLeDiff, true_and, List.length_map, hen]
        refine hK13 _ _ ?_; try clear hK13 K13
        conv => enter [5]; simp only [setL_cons, setL_nil, List.set_cons_zero, List.set_cons_succ]
        refine AW.ret ⟨.inr rfl, _, rfl, by simp, ?_⟩ -- return 3
        refine frzB ?_
        exact (decide_eq_true hZ).symm

set_option maxRecDepth 100000 in
theorem eqsame_calls (q q' : EqM) (hok : q.ok) : APure prog Γ 100 [EqM.enc q, EqM.enc q'] (.val (.bool (decide (q.key = q'.key)))) := by
  refine APure.of func100 rfl fun σ => ?_
  simp only [ntmps100, List.length_cons, List.length_nil, Nat.reduceAdd, Nat.reduceSub, List.replicate_succ, List.replicate_zero, List.cons_append, List.nil_append]
  have hl : q.lhs.length ≤ maxLen := by rw [maxLen_eq]; have := hok.1.1; omega
  refine AW.regl false [2, 3, 4] (by rfl) fun K1 hK1 => ?_ -- region 0
  simp only [go_sem, Nat.reduceAdd, Nat.reduceEqDiff, Nat.reduceLeDiff, true_and, ProgM.enc, NodeM.enc, EqM.enc, VarM.enc, enc_one, enc_len, enc_get43, enc_get47, eqc_get81, eqc_get128, List.length_map, List.length_cons, List.all_cons, one_row, len_row, ba_beqL, List.drop_succ_cons, List.drop_zero]
  refine hK1 _ _ ?_; try clear hK1 K1
  conv => enter [5]; simp only [setL_cons, setL_nil, List.set_cons_zero, List.set_cons_succ]
  refine AW.regtf false 4 (.val (.bool ((decide (q.lhs = q'.lhs)) && (decide (q.rhs.norm = q'.rhs.norm))))) (by rfl) ?_ ?_ -- region 1
  · skip
    cases h9 : ((decide (q.lhs = q'.lhs)))
    · skip
      simp only [go_sem, Nat.reduceAdd, Nat.reduceEqDiff, Nat.reduceLeDiff, true_and, ProgM.enc, NodeM.enc, EqM.enc, VarM.enc, enc_one, enc_len, enc_get43, enc_get47, eqc_get81, eqc_get128, List.length_map, List.length_cons, List.all_cons, one_row, len_row, ba_beqL, List.drop_succ_cons, List.drop_zero, h9]
      refine sC.of en110 ((by   have := equal110 (Γ := Γ) str (fun s => s) str_get9 neq_str q.nl q'.nl q.lhs q'.lhs hl ;   rwa [List.map_id', List.map_id'] at this : APure prog Γ 110 [rowAV 1 q.nl (q.lhs.map str), rowAV 1 q'.nl (q'.lhs.map str)] (bool (decide (q.lhs = q'.lhs)))).on _).here (by rfl) ?_
      simp only [go_sem, Nat.reduceAdd, Nat.reduceEqDiff, Nat.reduceLeDiff, true_and, ProgM.enc, NodeM.enc, EqM.enc, VarM.enc, enc_one, enc_len, enc_get43, enc_get47, eqc_get81, eqc_get128, List.length_map, List.length_cons, List.all_cons, one_row, len_row, ba_beqL, List.drop_succ_cons, List.drop_zero, h9]
      try simp [upd_at, h9, ProgM.enc, NodeM.enc, EqM.enc, VarM.enc, enc_one, enc_len, enc_get43, enc_get47, eqc_get81, eqc_get128, List.length_map, List.length_cons, List.all_cons, one_row, len_row, ba_beqL, List.drop_succ_cons, List.drop_zero]
    · skip
      simp only [go_sem, Nat.reduceAdd, Nat.reduceEqDiff, Nat.reduceLeDiff, true_and, ProgM.enc, NodeM.enc, EqM.enc, VarM.enc, enc_one, enc_len, enc_get43, enc_get47, eqc_get81, eqc_get128, List.length_map, List.length_cons, List.all_cons, one_row, len_row, ba_beqL, List.drop_succ_cons, List.drop_zero, h9]
      refine sC.of en110 ((by   have := equal110 (Γ := Γ) str (fun s => s) str_get9 neq_str q.nl q'.nl q.lhs q'.lhs hl ;   rwa [List.map_id', List.map_id'] at this : APure prog Γ 110 [rowAV 1 q.nl (q.lhs.map str), rowAV 1 q'.nl (q'.lhs.map str)] (bool (decide (q.lhs = q'.lhs)))).on _).here (by rfl) ?_
      simp only [go_sem, Nat.reduceAdd, Nat.reduceEqDiff, Nat.reduceLeDiff, true_and, ProgM.enc, NodeM.enc, EqM.enc, VarM.enc, enc_one, enc_len, enc_get43, enc_get47, eqc_get81, eqc_get128, List.length_map, List.length_cons, List.all_cons, one_row, len_row, ba_beqL, List.drop_succ_cons, List.drop_zero, h9]
      refine sC.of en18 ((same_calls q.rhs (by have := hok.2.1; omega) q'.rhs).on _).here (by rfl) ?_
      simp only [go_sem, Nat.reduceAdd, Nat.reduceEqDiff, Nat.reduceLeDiff, true_and, ProgM.enc, NodeM.enc, EqM.enc, VarM.enc, enc_one, enc_len, enc_get43, enc_get47, eqc_get81, eqc_get128, List.length_map, List.length_cons, List.all_cons, one_row, len_row, ba_beqL, List.drop_succ_cons, List.drop_zero, h9]
      try simp [upd_at, h9, ProgM.enc, NodeM.enc, EqM.enc, VarM.enc, enc_one, enc_len, enc_get43, enc_get47, eqc_get81, eqc_get128, List.length_map, List.length_cons, List.all_cons, one_row, len_row, ba_beqL, List.drop_succ_cons, List.drop_zero]
  conv => enter [5]; simp only [List.set_cons_zero, List.set_cons_succ]
  refine AW.ret ⟨.inr rfl, _, rfl, by simp, ?_⟩ -- return 1
  refine frzB ?_
  rw [Bool.eq_iff_iff]
  simp [EqM.key]

set_option maxRecDepth 100000 in
theorem equalFunc99 {α κ : Type} [DecidableEq κ] (en : α → AV) (key : α → κ) (hen : ∀ a, aGet prog 128 (en a).cells = some (en a)) (hal : ∀ a, (en a).cells.all AV.one = true) (hle : ∀ a, (en a).cells.length = 6) (hbel : ∀ a n, (en a).bel n = true) (nl nl' : Bool) (l l' : List α) (hl : l.length ≤ maxLen) (g : FuncId) (hg : Enters prog g) (hp : ∀ a ∈ l, ∀ b ∈ l', APure prog Γ g [en a, en b] (.val (.bool (decide (key a = key b))))) : APure prog Γ 99 [rowAV 6 nl (l.map en), rowAV 6 nl' (l'.map en), .fn g []] (.val (.bool (decide (l.map key = l'.map key)))) := by
  refine APure.of func99 rfl fun σ => ?_
  simp only [ntmps99, List.length_cons, List.length_nil, Nat.reduceAdd, Nat.reduceSub, List.replicate_succ, List.replicate_zero, List.cons_append, List.nil_append]
  refine AW.regl false [6] (by rfl) fun K1 hK1 => ?_ -- region 0
  simp only [go_sem, Nat.reduceAdd, Nat.reduceEqDiff, Nat.reduceLeDiff, true_and, List.length_map, hen, hal, hle]
  refine hK1 _ _ ?_; try clear hK1 K1
  conv => enter [5]; simp only [setL_cons, setL_nil, List.set_cons_zero, List.set_cons_succ]
  refine AW.seq_k fun K2 hK2 => ?_
  refine AW.regl false [14] (by rfl) fun K3 hK3 => ?_ -- region 1
  simp only [go_sem, Nat.reduceAdd, Nat.reduceEqDiff, Nat.reduceLeDiff, true_and, List.length_map, hen, hal, hle]
  refine hK3 _ _ ?_; try clear hK3 K3
  conv => enter [5]; simp only [setL_cons, setL_nil, List.set_cons_zero, List.set_cons_succ]
  refine AW.cond rfl (fun hc14 => ?_) (fun hc14 => ?_)
  · skip
    refine AW.regl false [6] (by rfl) fun K4 hK4 => ?_ -- region 2
    simp only [go_sem, Nat.reduceAdd, Nat.reduceEqDiff, Nat.reduceLeDiff, true_and, List.length_map, hen, hal, hle]
    refine hK4 _ _ ?_; try clear hK4 K4
    conv => enter [5]; simp only [setL_cons, setL_nil, List.set_cons_zero, List.set_cons_succ]
    refine AW.ret ⟨.inr rfl, _, rfl, by simp, ?_⟩ -- return 1
    refine frzB ?_
    refine (decide_eq_false fun e => ?_).symm
    have := map_len e
    simp [this] at hc14
  · skip
    have hl0 : l.length = l'.length := by
      have : (l.length : Int) = l'.length := by simpa using hc14
      omega
    refine AW.skip ?_
    refine hK2 _ _ ?_; try clear hK2 K2
    refine AW.seq_k fun K5 hK5 => ?_
    refine AW.regl false [15, 16, 17] (by rfl) fun K6 hK6 => ?_ -- region 3
    simp only [go_sem, Nat.reduceAdd, Nat.reduceEqDiff, Nat.reduceLeDiff, true_and, List.length_map, hen, hal, hle]
    refine hK6 _ _ ?_; try clear hK6 K6
    conv => enter [5]; simp only [setL_cons, setL_nil, List.set_cons_zero, List.set_cons_succ]
    refine AW.block ?_
    refine AW.loop_dr (α := Nat) (fun i => [(rowAV 6 nl (l.map en)), (rowAV 6 nl' (l'.map en)), (.fn g []), .any, .any, .any, .any, .any, .any, .any, .any, .any, .any, .any, .any, (rowAV 6 nl (l.map en)), (.val (.int .i64 (l.length : Nat))), (.val (.int .i64 (i : Nat))), .any, .any, .any, .any, .any, .any, .any, .any, .any, .any, .any, .any, .any, .any]) (fun i => σ) (fun i => l.length - i) (fun i => i ≤ l.length ∧ (l.take i).map key = (l'.take i).map key) 0 ?_ ?_ ?_
    · exact ⟨⟨Nat.zero_le _, rfl⟩, by simp [Wk], rfl⟩
    · exact fun y _ => ⟨by simp [belL, AV.bel, row_bel hbel], bel_one⟩
    · rintro i ⟨hi, hit⟩
      refine AW.regl false [18] (by rfl) fun K7 hK7 => ?_ -- region 4
      simp only [go_sem, Nat.reduceAdd, Nat.reduceEqDiff, Nat.reduceLeDiff, true_and, List.length_map, hen, hal, hle]
      refine hK7 _ _ ?_; try clear hK7 K7
      conv => enter [5]; simp only [setL_cons, setL_nil, List.set_cons_zero, List.set_cons_succ]
      refine AW.seq_k fun K8 hK8 => ?_
      refine AW.cond rfl (fun hc18 => ?_) (fun hc18 => ?_)
      · skip
        have hi1 : i < l.length := by simpa using hc18
        have hi2 : i < l'.length := by rw [← hl0]; exact hi1
        obtain ⟨u, hu⟩ : ∃ z, z = l[i] := ⟨_, rfl⟩
        obtain ⟨v, hv⟩ : ∃ z, z = l'[i] := ⟨_, rfl⟩
        have gu : (l.map en)[i]? = some (en u) := by rw [hu]; simp [hi1]
        have gv : (l'.map en)[i]? = some (en v) := by rw [hv]; simp [hi2]
        refine AW.skip ?_
        refine hK8 _ _ ?_; try clear hK8 K8
        refine AW.seq_k fun K9 hK9 => ?_
        refine AW.block ?_
        refine AW.regl false [8, 7] (by rfl) fun K10 hK10 => ?_ -- region 5
        simp only [go_sem, Nat.reduceAdd, Nat.reduceEqDiff, Nat.reduceLeDiff, true_and, List.length_map, hen, hal, hle, at_row gu]
        refine hK10 _ _ ?_; try clear hK10 K10
        conv => enter [5]; simp only [setL_cons, setL_nil, List.set_cons_zero, List.set_cons_succ, upd_none, upd_at]
        refine AW.regl false [9] (by rfl) fun K11 hK11 => ?_ -- region 6
        simp only [go_sem, Nat.reduceAdd, Nat.reduceEqDiff, Nat.reduceLeDiff, true_and, List.length_map, hen, hal, hle, at_row gv]
        refine hK11 _ _ ?_; try clear hK11 K11
        conv => enter [5]; simp only [setL_cons, setL_nil, List.set_cons_zero, List.set_cons_succ, upd_none, upd_at]
        refine AW.regl false [30] (by rfl) fun K12 hK12 => ?_ -- region 7
        simp only [go_sem, Nat.reduceAdd, Nat.reduceEqDiff, Nat.reduceLeDiff, true_and, List.length_map, hen, hal, hle]
        refine sC.of hg (hp u (by rw [hu]; exact List.getElem_mem hi1) v (by rw [hv]; exact List.getElem_mem hi2) |>.on _).here (by rfl) ?_
        simp only [go_sem, Nat.reduceAdd, Nat.reduceEqDiff, Nat.reduceLeDiff, true_and, List.length_map, hen, hal, hle]
        refine hK12 _ _ ?_; try clear hK12 K12
        conv => enter [5]; simp only [setL_cons, setL_nil, List.set_cons_zero, List.set_cons_succ]
        refine AW.cond rfl (fun hc30 => ?_) (fun hc30 => ?_)
        · skip
          refine AW.regl false [6] (by rfl) fun K13 hK13 => ?_ -- region 8
          simp only [go_sem, Nat.reduceAdd, Nat.reduceEqDiff, Nat.reduceLeDiff, true_and, List.length_map, hen, hal, hle]
          refine hK13 _ _ ?_; try clear hK13 K13
          conv => enter [5]; simp only [setL_cons, setL_nil, List.set_cons_zero, List.set_cons_succ]
          refine AW.ret ⟨.inr rfl, _, rfl, by simp, ?_⟩ -- return 2
          refine frzB ?_
          exact (decide_eq_false (eq_at hi1 hi2 (by rw [← hu, ← hv]; exact not_dec hc30))).symm
        · skip
          refine AW.skip ?_
          refine hK9 _ _ ?_; try clear hK9 K9
          refine AW.lastl false [17] (by rfl) fun K hK => ?_ -- region 9
          simp only [go_sem, Nat.reduceAdd, Nat.reduceEqDiff, Nat.reduceLeDiff, true_and, List.length_map, hen, hal, hle]
          refine hK _ _ fun env' hw => ?_
          simp only [setL_cons, setL_nil, List.set_cons_zero, List.set_cons_succ] at hw
          refine ⟨i + 1, by omega, ⟨by omega, eq_step hi1 hi2 hit (by rw [← hu, ← hv]; exact dec_of hc30)⟩, ?_, by simp [List.take_append, List.take_of_length_le]⟩
          refine hw.trans ?_
          simp [Wk, wrap_succ hi1 hl]
      · skip
        have hi1 : ¬ i < l.length := by simpa using hc18
        have hZ := eq_end hi1 hl0 hit
        refine AW.exit ?_
        refine hK5 _ _ ?_; try clear hK5 K5
        refine AW.regl false [6] (by rfl) fun K14 hK14 => ?_ -- region 10
        simp only [go_sem, Nat.reduceAdd, Nat.reduceEqDiff, Nat.reduceLeDiff, true_and, List.length_map, hen, hal, hle]
        refine hK14 _ _ ?_; try clear hK14 K14
        conv => enter [5]; simp only [setL_cons, setL_nil, List.set_cons_zero, List.set_cons_succ]
        refine AW.ret ⟨.inr rfl, _, rfl, by simp, ?_⟩ -- return 3
        refine frzB ?_
        exact (decide_eq_true hZ).symm

set_option maxRecDepth 100000 in
theorem nodesame_calls (n n' : NodeM) (hok : n.ok) : APure prog Γ 72 [NodeM.enc n, NodeM.enc n'] (.val (.bool (decide (n.key = n'.key)))) := by
  refine APure.of func72 rfl fun σ => ?_
  simp only [ntmps72, List.length_cons, List.length_nil, Nat.reduceAdd, Nat.reduceSub, List.replicate_succ, List.replicate_zero, List.cons_append, List.nil_append]
  refine AW.regl false [2, 3, 4] (by rfl) fun K1 hK1 => ?_ -- region 0
  simp only [go_sem, Nat.reduceAdd, Nat.reduceEqDiff, Nat.reduceLeDiff, true_and, ProgM.enc, NodeM.enc, EqM.enc, VarM.enc, enc_one, enc_len, enc_get43, enc_get47, eqc_get81, eqc_get128, List.length_map, List.length_cons, List.all_cons, one_row, len_row, ba_beqL, List.drop_succ_cons, List.drop_zero]
  refine hK1 _ _ ?_; try clear hK1 K1
  conv => enter [5]; simp only [setL_cons, setL_nil, List.set_cons_zero, List.set_cons_succ]
  refine AW.regtf false 5 (.val (.bool (((decide (n.ins.map VarM.key = n'.ins.map VarM.key)) && (decide (n.outs.map VarM.key = n'.outs.map VarM.key))) && (decide (n.locals.map VarM.key = n'.locals.map VarM.key))))) (by rfl) ?_ ?_ -- region 1
  · skip
    cases h10 : ((decide (n.ins.map VarM.key = n'.ins.map VarM.key)))
    · skip
      simp only [go_sem, Nat.reduceAdd, Nat.reduceEqDiff, Nat.reduceLeDiff, true_and, ProgM.enc, NodeM.enc, EqM.enc, VarM.enc, enc_one, enc_len, enc_get43, enc_get47, eqc_get81, eqc_get128, List.length_map, List.length_cons, List.all_cons, one_row, len_row, ba_beqL, List.drop_succ_cons, List.drop_zero, h10]
      refine sC.of en98 ((equal98 (Γ := Γ) VarM.enc VarM.key var_get160 (neq_var (.inl rfl)) n.nlI n'.nlI n.ins n'.ins (by rw [maxLen_eq]; have := hok.2.1.1; have := hok.2.2.1.1; have := hok.2.2.2.1.1; omega)).on _).here (by rfl) ?_
      simp only [go_sem, Nat.reduceAdd, Nat.reduceEqDiff, Nat.reduceLeDiff, true_and, ProgM.enc, NodeM.enc, EqM.enc, VarM.enc, enc_one, enc_len, enc_get43, enc_get47, eqc_get81, eqc_get128, List.length_map, List.length_cons, List.all_cons, one_row, len_row, ba_beqL, List.drop_succ_cons, List.drop_zero, h10]
      try simp [upd_at, h10, ProgM.enc, NodeM.enc, EqM.enc, VarM.enc, enc_one, enc_len, enc_get43, enc_get47, eqc_get81, eqc_get128, List.length_map, List.length_cons, List.all_cons, one_row, len_row, ba_beqL, List.drop_succ_cons, List.drop_zero]
    · skip
      cases h16 : ((decide (n.outs.map VarM.key = n'.outs.map VarM.key)))
      · skip
        simp only [go_sem, Nat.reduceAdd, Nat.reduceEqDiff, Nat.reduceLeDiff, true_and, ProgM.enc, NodeM.enc, EqM.enc, VarM.enc, enc_one, enc_len, enc_get43, enc_get47, eqc_get81, eqc_get128, List.length_map, List.length_cons, List.all_cons, one_row, len_row, ba_beqL, List.drop_succ_cons, List.drop_zero, h10, h16]
        refine sC.of en98 ((equal98 (Γ := Γ) VarM.enc VarM.key var_get160 (neq_var (.inl rfl)) n.nlI n'.nlI n.ins n'.ins (by rw [maxLen_eq]; have := hok.2.1.1; have := hok.2.2.1.1; have := hok.2.2.2.1.1; omega)).on _).here (by rfl) ?_
        simp only [go_sem, Nat.reduceAdd, Nat.reduceEqDiff, Nat.reduceLeDiff, true_and, ProgM.enc, NodeM.enc, EqM.enc, VarM.enc, enc_one, enc_len, enc_get43, enc_get47, eqc_get81, eqc_get128, List.length_map, List.length_cons, List.all_cons, one_row, len_row, ba_beqL, List.drop_succ_cons, List.drop_zero, h10, h16]
        refine sC.of en98 ((equal98 (Γ := Γ) VarM.enc VarM.key var_get160 (neq_var (.inl rfl)) n.nlO n'.nlO n.outs n'.outs (by rw [maxLen_eq]; have := hok.2.1.1; have := hok.2.2.1.1; have := hok.2.2.2.1.1; omega)).on _).here (by rfl) ?_
        simp only [go_sem, Nat.reduceAdd, Nat.reduceEqDiff, Nat.reduceLeDiff, true_and, ProgM.enc, NodeM.enc, EqM.enc, VarM.enc, enc_one, enc_len, enc_get43, enc_get47, eqc_get81, eqc_get128, List.length_map, List.length_cons, List.all_cons, one_row, len_row, ba_beqL, List.drop_succ_cons, List.drop_zero, h10, h16]
        try simp [upd_at, h10, h16, ProgM.enc, NodeM.enc, EqM.enc, VarM.enc, enc_one, enc_len, enc_get43, enc_get47, eqc_get81, eqc_get128, List.length_map, List.length_cons, List.all_cons, one_row, len_row, ba_beqL, List.drop_succ_cons, List.drop_zero]
      · skip
        simp only [go_sem, Nat.reduceAdd, Nat.reduceEqDiff, Nat.reduceLeDiff, true_and, ProgM.enc, NodeM.enc, EqM.enc, VarM.enc, enc_one, enc_len, enc_get43, enc_get47, eqc_get81, eqc_get128, List.length_map, List.length_cons, List.all_cons, one_row, len_row, ba_beqL, List.drop_succ_cons, List.drop_zero, h10, h16]
        refine sC.of en98 ((equal98 (Γ := Γ) VarM.enc VarM.key var_get160 (neq_var (.inl rfl)) n.nlI n'.nlI n.ins n'.ins (by rw [maxLen_eq]; have := hok.2.1.1; have := hok.2.2.1.1; have := hok.2.2.2.1.1; omega)).on _).here (by rfl) ?_
        simp only [go_sem, Nat.reduceAdd, Nat.reduceEqDiff, Nat.reduceLeDiff, true_and, ProgM.enc, NodeM.enc, EqM.enc, VarM.enc, enc_one, enc_len, enc_get43, enc_get47, eqc_get81, eqc_get128, List.length_map, List.length_cons, List.all_cons, one_row, len_row, ba_beqL, List.drop_succ_cons, List.drop_zero, h10, h16]
        refine sC.of en98 ((equal98 (Γ := Γ) VarM.enc VarM.key var_get160 (neq_var (.inl rfl)) n.nlO n'.nlO n.outs n'.outs (by rw [maxLen_eq]; have := hok.2.1.1; have := hok.2.2.1.1; have := hok.2.2.2.1.1; omega)).on _).here (by rfl) ?_
        simp only [go_sem, Nat.reduceAdd, Nat.reduceEqDiff, Nat.reduceLeDiff, true_and, ProgM.enc, NodeM.enc, EqM.enc, VarM.enc, enc_one, enc_len, enc_get43, enc_get47, eqc_get81, eqc_get128, List.length_map, List.length_cons, List.all_cons, one_row, len_row, ba_beqL, List.drop_succ_cons, List.drop_zero, h10, h16]
        refine sC.of en98 ((equal98 (Γ := Γ) VarM.enc VarM.key var_get160 (neq_var (.inl rfl)) n.nlL n'.nlL n.locals n'.locals (by rw [maxLen_eq]; have := hok.2.1.1; have := hok.2.2.1.1; have := hok.2.2.2.1.1; omega)).on _).here (by rfl) ?_
        simp only [go_sem, Nat.reduceAdd, Nat.reduceEqDiff, Nat.reduceLeDiff, true_and, ProgM.enc, NodeM.enc, EqM.enc, VarM.enc, enc_one, enc_len, enc_get43, enc_get47, eqc_get81, eqc_get128, List.length_map, List.length_cons, List.all_cons, one_row, len_row, ba_beqL, List.drop_succ_cons, List.drop_zero, h10, h16]
        try simp [upd_at, h10, h16, ProgM.enc, NodeM.enc, EqM.enc, VarM.enc, enc_one, enc_len, enc_get43, enc_get47, eqc_get81, eqc_get128, List.length_map, List.length_cons, List.all_cons, one_row, len_row, ba_beqL, List.drop_succ_cons, List.drop_zero]
  conv => enter [5]; simp only [List.set_cons_zero, List.set_cons_succ]
  refine AW.regtf false 4 (.val (.bool (((decide (n.name = n'.name)) && (((decide (n.ins.map VarM.key = n'.ins.map VarM.key)) && (decide (n.outs.map VarM.key = n'.outs.map VarM.key))) && (decide (n.locals.map VarM.key = n'.locals.map VarM.key)))) && (decide (n.eqs.map EqM.key = n'.eqs.map EqM.key))))) (by rfl) ?_ ?_ -- region 2
  · skip
    cases h29 : ((decide (n.name = n'.name)))
    · skip
      simp only [go_sem, Nat.reduceAdd, Nat.reduceEqDiff, Nat.reduceLeDiff, true_and, ProgM.enc, NodeM.enc, EqM.enc, VarM.enc, enc_one, enc_len, enc_get43, enc_get47, eqc_get81, eqc_get128, List.length_map, List.length_cons, List.all_cons, one_row, len_row, ba_beqL, List.drop_succ_cons, List.drop_zero, h29]
      try simp [upd_at, h29, ProgM.enc, NodeM.enc, EqM.enc, VarM.enc, enc_one, enc_len, enc_get43, enc_get47, eqc_get81, eqc_get128, List.length_map, List.length_cons, List.all_cons, one_row, len_row, ba_beqL, List.drop_succ_cons, List.drop_zero]
    · skip
      cases h5 : ((((decide (n.ins.map VarM.key = n'.ins.map VarM.key)) && (decide (n.outs.map VarM.key = n'.outs.map VarM.key))) && (decide (n.locals.map VarM.key = n'.locals.map VarM.key))))
      · skip
        simp only [go_sem, Nat.reduceAdd, Nat.reduceEqDiff, Nat.reduceLeDiff, true_and, ProgM.enc, NodeM.enc, EqM.enc, VarM.enc, enc_one, enc_len, enc_get43, enc_get47, eqc_get81, eqc_get128, List.length_map, List.length_cons, List.all_cons, one_row, len_row, ba_beqL, List.drop_succ_cons, List.drop_zero, h29, h5]
        try simp [upd_at, h29, h5, ProgM.enc, NodeM.enc, EqM.enc, VarM.enc, enc_one, enc_len, enc_get43, enc_get47, eqc_get81, eqc_get128, List.length_map, List.length_cons, List.all_cons, one_row, len_row, ba_beqL, List.drop_succ_cons, List.drop_zero]
      · skip
        simp only [go_sem, Nat.reduceAdd, Nat.reduceEqDiff, Nat.reduceLeDiff, true_and, ProgM.enc, NodeM.enc, EqM.enc, VarM.enc, enc_one, enc_len, enc_get43, enc_get47, eqc_get81, eqc_get128, List.length_map, List.length_cons, List.all_cons, one_row, len_row, ba_beqL, List.drop_succ_cons, List.drop_zero, h29, h5]
        refine sC.of en99 ((equalFunc99 (Γ := Γ) EqM.enc EqM.key eq_get128 eq_all eq_len eq_bel n.nlE n'.nlE n.eqs n'.eqs (by rw [maxLen_eq]; have := hok.2.2.2.2.1; omega) 100 en100 (fun a ha b _ => eqsame_calls a b (hok.2.2.2.2.2 a ha))).on _).here (by rfl) ?_
        simp only [go_sem, Nat.reduceAdd, Nat.reduceEqDiff, Nat.reduceLeDiff, true_and, ProgM.enc, NodeM.enc, EqM.enc, VarM.enc, enc_one, enc_len, enc_get43, enc_get47, eqc_get81, eqc_get128, List.length_map, List.length_cons, List.all_cons, one_row, len_row, ba_beqL, List.drop_succ_cons, List.drop_zero, h29, h5]
        try simp [upd_at, h29, h5, ProgM.enc, NodeM.enc, EqM.enc, VarM.enc, enc_one, enc_len, enc_get43, enc_get47, eqc_get81, eqc_get128, List.length_map, List.length_cons, List.all_cons, one_row, len_row, ba_beqL, List.drop_succ_cons, List.drop_zero]
  conv => enter [5]; simp only [List.set_cons_zero, List.set_cons_succ]
  refine AW.ret ⟨.inr rfl, _, rfl, by simp, ?_⟩ -- return 1
  refine frzB ?_
  rw [Bool.eq_iff_iff]
  simp only [Bool.and_eq_true, decide_eq_true_eq, node_key, and_assoc]

set_option maxRecDepth 100000 in
theorem equalFunc71 {α κ : Type} [DecidableEq κ] (en : α → AV) (key : α → κ) (hen : ∀ a, aGet prog 97 (en a).cells = some (en a)) (hal : ∀ a, (en a).cells.all AV.one = true) (hle : ∀ a, (en a).cells.length = 5) (hbel : ∀ a n, (en a).bel n = true) (nl nl' : Bool) (l l' : List α) (hl : l.length ≤ maxLen) (g : FuncId) (hg : Enters prog g) (hp : ∀ a ∈ l, ∀ b ∈ l', APure prog Γ g [en a, en b] (.val (.bool (decide (key a = key b))))) : APure prog Γ 71 [rowAV 5 nl (l.map en), rowAV 5 nl' (l'.map en), .fn g []] (.val (.bool (decide (l.map key = l'.map key)))) := by
  refine APure.of func71 rfl fun σ => ?_
  simp only [ntmps71, List.length_cons, List.length_nil, Nat.reduceAdd, Nat.reduceSub, List.replicate_succ, List.replicate_zero, List.cons_append, List.nil_append]
  refine AW.regl false [6] (by rfl) fun K1 hK1 => ?_ -- region 0
  simp only [go_sem, Nat.reduceAdd, Nat.reduceEqDiff, Nat.reduceLeDiff, true_and, List.length_map, hen, hal, hle]
  refine hK1 _ _ ?_; try clear hK1 K1
  conv => enter [5]; simp only [setL_cons, setL_nil, List.set_cons_zero, List.set_cons_succ]
  refine AW.seq_k fun K2 hK2 => ?_
  refine AW.regl false [14] (by rfl) fun K3 hK3 => ?_ -- region 1
  simp only [go_sem, Nat.reduceAdd, Nat.reduceEqDiff, Nat.reduceLeDiff, true_and, List.length_map, hen, hal, hle]
  refine hK3 _ _ ?_; try clear hK3 K3
  conv => enter [5]; simp only [setL_cons, setL_nil, List.set_cons_zero, List.set_cons_succ]
  refine AW.cond rfl (fun hc14 => ?_) (fun hc14 => ?_)
  · skip
    refine AW.regl false [6] (by rfl) fun K4 hK4 => ?_ -- region 2
    simp only [go_sem, Nat.reduceAdd, Nat.reduceEqDiff, Nat.reduceLeDiff, true_and, List.length_map, hen, hal, hle]
    refine hK4 _ _ ?_; try clear hK4 K4
    conv => enter [5]; simp only [setL_cons, setL_nil, List.set_cons_zero, List.set_cons_succ]
    refine AW.ret ⟨.inr rfl, _, rfl, by simp, ?_⟩ -- return 1
    refine frzB ?_
    refine (decide_eq_false fun e => ?_).symm
    have := map_len e
    simp [this] at hc14
  · skip
    have hl0 : l.length = l'.length := by
      have : (l.length : Int) = l'.length := by simpa using hc14
      omega
    refine AW.skip ?_
    refine hK2 _ _ ?_; try clear hK2 K2
    refine AW.seq_k fun K5 hK5 => ?_
    refine AW.regl false [15, 16, 17] (by rfl) fun K6 hK6 => ?_ -- region 3
    simp only [go_sem, Nat.reduceAdd, Nat.reduceEqDiff, Nat.reduceLeDiff, true_and, List.length_map, hen, hal, hle]
    refine hK6 _ _ ?_; try clear hK6 K6
    conv => enter [5]; simp only [setL_cons, setL_nil, List.set_cons_zero, List.set_cons_succ]
    refine AW.block ?_
    refine AW.loop_dr (α := Nat) (fun i => [(rowAV 5 nl (l.map en)), (rowAV 5 nl' (l'.map en)), (.fn g []), .any, .any, .any, .any, .any, .any, .any, .any, .any, .any, .any, .any, (rowAV 5 nl (l.map en)), (.val (.int .i64 (l.length : Nat))), (.val (.int .i64 (i : Nat))), .any, .any, .any, .any, .any, .any, .any, .any, .any, .any, .any, .any, .any, .any]) (fun i => σ) (fun i => l.length - i) (fun i => i ≤ l.length ∧ (l.take i).map key = (l'.take i).map key) 0 ?_ ?_ ?_
    · exact ⟨⟨Nat.zero_le _, rfl⟩, by simp [Wk], rfl⟩
    · exact fun y _ => ⟨by simp [belL, AV.bel, row_bel hbel], bel_one⟩
    · rintro i ⟨hi, hit⟩
      refine AW.regl false [18] (by rfl) fun K7 hK7 => ?_ -- region 4
      simp only [go_sem, Nat.reduceAdd, Nat.reduceEqDiff, Nat.reduceLeDiff, true_and, List.length_map, hen, hal, hle]
      refine hK7 _ _ ?_; try clear hK7 K7
      conv => enter [5]; simp only [setL_cons, setL_nil, List.set_cons_zero, List.set_cons_succ]
      refine AW.seq_k fun K8 hK8 => ?_
      refine AW.cond rfl (fun hc18 => ?_) (fun hc18 => ?_)
      · skip
        have hi1 : i < l.length := by simpa using hc18
        have hi2 : i < l'.length := by rw [← hl0]; exact hi1
        obtain ⟨u, hu⟩ : ∃ z, z = l[i] := ⟨_, rfl⟩
        obtain ⟨v, hv⟩ : ∃ z, z = l'[i] := ⟨_, rfl⟩
        have gu : (l.map en)[i]? = some (en u) := by rw [hu]; simp [hi1]
        have gv : (l'.map en)[i]? = some (en v) := by rw [hv]; simp [hi2]
        refine AW.skip ?_
        refine hK8 _ _ ?_; try clear hK8 K8
        refine AW.seq_k fun K9 hK9 => ?_
        refine AW.block ?_
        refine AW.regl false [8, 7] (by rfl) fun K10 hK10 => ?_ -- region 5
        simp only [go_sem, Nat.reduceAdd, Nat.reduceEqDiff, Nat.reduceLeDiff, true_and, List.length_map, hen, hal, hle, at_row gu]
        refine hK10 _ _ ?_; try clear hK10 K10
        conv => enter [5]; simp only [setL_cons, setL_nil, List.set_cons_zero, List.set_cons_succ, upd_none, upd_at]
        refine AW.regl false [9] (by rfl) fun K11 hK11 => ?_ -- region 6
        simp only [go_sem, Nat.reduceAdd, Nat.reduceEqDiff, Nat.reduceLeDiff, true_and, List.length_map, hen, hal, hle, at_row gv]
        refine hK11 _ _ ?_; try clear hK11 K11
        conv => enter [5]; simp only [setL_cons, setL_nil, List.set_cons_zero, List.set_cons_succ, upd_none, upd_at]
        refine AW.regl false [30] (by rfl) fun K12 hK12 => ?_ -- region 7
        simp only [go_sem, Nat.reduceAdd, Nat.reduceEqDiff, Nat.reduceLeDiff, true_and, List.length_map, hen, hal, hle]
        refine sC.of hg (hp u (by rw [hu]; exact List.getElem_mem hi1) v (by rw [hv]; exact List.getElem_mem hi2) |>.on _).here (by rfl) ?_
        simp only [go_sem, Nat.reduceAdd, Nat.reduceEqDiff, Nat.reduceLeDiff, true_and, List.length_map, hen, hal, hle]
        refine hK12 _ _ ?_; try clear hK12 K12
        conv => enter [5]; simp only [setL_cons, setL_nil, List.set_cons_zero, List.set_cons_succ]
        refine AW.cond rfl (fun hc30 => ?_) (fun hc30 => ?_)
        · skip
          refine AW.regl false [6] (by rfl) fun K13 hK13 => ?_ -- region 8
          simp only [go_sem, Nat.reduceAdd, Nat.reduceEqDiff, Nat.reduceLeDiff, true_and, List.length_map, hen, hal, hle]
          refine hK13 _ _ ?_; try clear hK13 K13
          conv => enter [5]; simp only [setL_cons, setL_nil, List.set_cons_zero, List.set_cons_succ]
          refine AW.ret ⟨.inr rfl, _, rfl, by simp, ?_⟩ -- return 2
          refine frzB ?_
          exact (decide_eq_false (eq_at hi1 hi2 (by rw [← hu, ← hv]; exact not_dec hc30))).symm
        · skip
          refine AW.skip ?_
          refine hK9 _ _ ?_; try clear hK9 K9
          refine AW.lastl false [17] (by rfl) fun K hK => ?_ -- region 9
          simp only [go_sem, Nat.reduceAdd, Nat.reduceEqDiff, Nat.reduceLeDiff, true_and, List.length_map, hen, hal, hle]
          refine hK _ _ fun env' hw => ?_
          simp only [setL_cons, setL_nil, List.set_cons_zero, List.set_cons_succ] at hw
          refine ⟨i + 1, by omega, ⟨by omega, eq_step hi1 hi2 hit (by rw [← hu, ← hv]; exact dec_of hc30)⟩, ?_, by simp [List.take_append, List.take_of_length_le]⟩
          refine hw.trans ?_
          simp [Wk, wrap_succ hi1 hl]
      · skip
        have hi1 : ¬ i < l.length := by simpa using hc18
        have hZ := eq_end hi1 hl0 hit
        refine AW.exit ?_
        refine hK5 _ _ ?_; try clear hK5 K5
        refine AW.regl false [6] (by rfl) fun K14 hK14 => ?_ -- region 10
        simp only [go_sem, Nat.reduceAdd, Nat.reduceEqDiff, Nat.reduceLeDiff, true_and, List.length_map, hen, hal, hle]
        refine hK14 _ _ ?_; try clear hK14 K14
        conv => enter [5]; simp only [setL_cons, setL_nil, List.set_cons_zero, List.set_cons_succ]
        refine AW.ret ⟨.inr rfl, _, rfl, by simp, ?_⟩ -- return 3
        refine frzB ?_
        exact (decide_eq_true hZ).symm

set_option maxRecDepth 100000 in
theorem psame_calls (p p' : ProgM) (hpk : p.ok) : APure prog Γ 41 [ProgM.enc p, ProgM.enc p'] (.val (.bool (decide (p.key = p'.key)))) := by
  refine APure.of func41 rfl fun σ => ?_
  simp only [ntmps41, List.length_cons, List.length_nil, Nat.reduceAdd, Nat.reduceSub, List.replicate_succ, List.replicate_zero, List.cons_append, List.nil_append]
  refine AW.regl false [2, 3, 4] (by rfl) fun K1 hK1 => ?_ -- region 0
  simp only [go_sem, Nat.reduceAdd, Nat.reduceEqDiff, Nat.reduceLeDiff, true_and, ProgM.enc, NodeM.enc, EqM.enc, VarM.enc, enc_one, enc_len, enc_get43, enc_get47, eqc_get81, eqc_get128, List.length_map, List.length_cons, List.all_cons, one_row, len_row, ba_beqL]
  refine hK1 _ _ ?_; try clear hK1 K1
  conv => enter [5]; simp only [setL_cons, setL_nil, List.set_cons_zero, List.set_cons_succ]
  refine AW.regl false [4] (by rfl) fun K2 hK2 => ?_ -- region 1
  simp only [go_sem, Nat.reduceAdd, Nat.reduceEqDiff, Nat.reduceLeDiff, true_and, ProgM.enc, NodeM.enc, EqM.enc, VarM.enc, enc_one, enc_len, enc_get43, enc_get47, eqc_get81, eqc_get128, List.length_map, List.length_cons, List.all_cons, one_row, len_row, ba_beqL]
  refine sC.of en71 ((equalFunc71 (Γ := Γ) NodeM.enc NodeM.key node_get97 node_all node_len node_bel p.nl p'.nl p.nodes p'.nodes (by rw [maxLen_eq]; have := hpk.1; omega) 72 en72 (fun a ha b _ => nodesame_calls a b (hpk.2 a ha))).on _).here (by rfl) ?_
  simp only [go_sem, Nat.reduceAdd, Nat.reduceEqDiff, Nat.reduceLeDiff, true_and, ProgM.enc, NodeM.enc, EqM.enc, VarM.enc, enc_one, enc_len, enc_get43, enc_get47, eqc_get81, eqc_get128, List.length_map, List.length_cons, List.all_cons, one_row, len_row, ba_beqL]
  refine hK2 _ _ ?_; try clear hK2 K2
  conv => enter [5]; simp only [setL_cons, setL_nil, List.set_cons_zero, List.set_cons_succ]
  refine AW.ret ⟨.inr rfl, _, rfl, by simp, ?_⟩ -- return 1
  exact .keep rfl

set_option maxRecDepth 100000 in
theorem alike_calls (nl nl' : Bool) (l l' : List VarM) (hl : l.length ≤ maxLen) : APure prog Γ 73 [rowAV 2 nl (l.map VarM.enc), rowAV 2 nl' (l'.map VarM.enc)] (.val (.bool (decide (l.map VarM.key = l'.map VarM.key)))) := by
  refine APure.of func73 rfl fun σ => ?_
  simp only [ntmps73, List.length_cons, List.length_nil, Nat.reduceAdd, Nat.reduceSub, List.replicate_succ, List.replicate_zero, List.cons_append, List.nil_append]
  refine AW.regl false [4] (by rfl) fun K1 hK1 => ?_ -- region 0
  simp only [go_sem, Nat.reduceAdd, Nat.reduceEqDiff, Nat.reduceLeDiff, true_and, List.length_map, len_row]
  refine hK1 _ _ ?_; try clear hK1 K1
  conv => enter [5]; simp only [setL_cons, setL_nil, List.set_cons_zero, List.set_cons_succ]
  refine AW.seq_k fun K2 hK2 => ?_
  refine AW.regl false [10] (by rfl) fun K3 hK3 => ?_ -- region 1
  simp only [go_sem, Nat.reduceAdd, Nat.reduceEqDiff, Nat.reduceLeDiff, true_and, List.length_map, len_row]
  refine hK3 _ _ ?_; try clear hK3 K3
  conv => enter [5]; simp only [setL_cons, setL_nil, List.set_cons_zero, List.set_cons_succ]
  refine AW.cond rfl (fun hc10 => ?_) (fun hc10 => ?_)
  · skip
    refine AW.regl false [4] (by rfl) fun K4 hK4 => ?_ -- region 2
    simp only [go_sem, Nat.reduceAdd, Nat.reduceEqDiff, Nat.reduceLeDiff, true_and, List.length_map, len_row]
    refine hK4 _ _ ?_; try clear hK4 K4
    conv => enter [5]; simp only [setL_cons, setL_nil, List.set_cons_zero, List.set_cons_succ]
    refine AW.ret ⟨.inr rfl, _, rfl, by simp, ?_⟩ -- return 1
    refine frzB ?_
    refine (decide_eq_false fun e => ?_).symm
    have := map_len e
    simp [this] at hc10
  · skip
    have hln : l.length = l'.length := by
      have : (l.length : Int) = l'.length := by simpa using hc10
      omega
    refine AW.skip ?_
    refine hK2 _ _ ?_; try clear hK2 K2
    refine AW.seq_k fun K5 hK5 => ?_
    refine AW.regl false [5] (by rfl) fun K6 hK6 => ?_ -- region 3
    simp only [go_sem, Nat.reduceAdd, Nat.reduceEqDiff, Nat.reduceLeDiff, true_and, List.length_map, len_row]
    refine hK6 _ _ ?_; try clear hK6 K6
    conv => enter [5]; simp only [setL_cons, setL_nil, List.set_cons_zero, List.set_cons_succ]
    refine AW.block ?_
    refine AW.loop_wk (α := Nat) (fun i => [(rowAV 2 nl (l.map VarM.enc)), (rowAV 2 nl' (l'.map VarM.enc)), .any, .any, .any, (.val (.int .i64 ((i : Nat) : Int))), .any, .any, .any, .any, .any, .any, .any, .any, .any, .any, .any, .any, .any, .any, .any, .any, .any, .any, .any, .any]) (fun i => σ) (fun i => l.length - i) (fun i => i ≤ l.length ∧ (l.take i).map VarM.key = (l'.take i).map VarM.key) 0 ?_ ?_
    · exact ⟨⟨Nat.zero_le _, rfl⟩, by simp [Wk], rfl⟩
    · rintro i ⟨hi, hit⟩
      refine AW.seq_k fun K7 hK7 => ?_
      refine AW.regl false [14] (by rfl) fun K8 hK8 => ?_ -- region 4
      simp only [go_sem, Nat.reduceAdd, Nat.reduceEqDiff, Nat.reduceLeDiff, true_and, List.length_map, len_row]
      refine hK8 _ _ ?_; try clear hK8 K8
      conv => enter [5]; simp only [setL_cons, setL_nil, List.set_cons_zero, List.set_cons_succ]
      refine AW.cond rfl (fun hc14 => ?_) (fun hc14 => ?_)
      · skip
        have hi1 : i < l.length := by simpa using hc14
        have hi2 : i < l'.length := by omega
        obtain ⟨u, hu⟩ : ∃ z, z = l[i] := ⟨_, rfl⟩
        obtain ⟨v, hv⟩ : ∃ z, z = l'[i] := ⟨_, rfl⟩
        have gu : (l.map VarM.enc)[i]? = some u.enc := by rw [hu, List.getElem?_map, List.getElem?_eq_getElem hi1]; rfl
        have gv : (l'.map VarM.enc)[i]? = some v.enc := by rw [hv, List.getElem?_map, List.getElem?_eq_getElem hi2]; rfl
        refine AW.skip ?_
        refine hK7 _ _ ?_; try clear hK7 K7
        refine AW.seq_k fun K9 hK9 => ?_
        refine AW.block ?_
        refine AW.regdl mixed false [25] (by kernel_rfl) (by rfl) fun K10 hK10 => ?_ -- region 6
        simp only [go_sem, Nat.reduceAdd, Nat.reduceEqDiff, Nat.reduceLeDiff, true_and, List.length_map, len_row, at_row gu, at_row gv, var_get77, neq_var (.inr rfl)]
        refine hK10 _ ?_; try clear hK10 K10
        conv => enter [5]; simp only [setL_cons, setL_nil, List.set_cons_zero, List.set_cons_succ]
        refine AW.cond rfl (fun hc25 => ?_) (fun hc25 => ?_)
        · skip
          refine AW.regl false [4] (by rfl) fun K11 hK11 => ?_ -- region 7
          simp only [go_sem, Nat.reduceAdd, Nat.reduceEqDiff, Nat.reduceLeDiff, true_and, List.length_map, len_row]
          refine hK11 _ _ ?_; try clear hK11 K11
          conv => enter [5]; simp only [setL_cons, setL_nil, List.set_cons_zero, List.set_cons_succ]
          refine AW.ret ⟨.inr rfl, _, rfl, by simp, ?_⟩ -- return 2
          refine frzB ?_
          exact (decide_eq_false (eq_at hi1 hi2 (by rw [← hu, ← hv]; exact not_dec hc25))).symm
        · skip
          refine AW.skip ?_
          refine hK9 _ _ ?_; try clear hK9 K9
          refine AW.lastl false [5] (by rfl) fun K hK => ?_ -- region 5
          simp only [go_sem, Nat.reduceAdd, Nat.reduceEqDiff, Nat.reduceLeDiff, true_and, List.length_map, len_row]
          refine hK _ _ fun env' hw => ?_
          simp only [setL_cons, setL_nil, List.set_cons_zero, List.set_cons_succ] at hw
          refine ⟨i + 1, by omega, ⟨by omega, eq_step hi1 hi2 hit (by rw [← hu, ← hv]; exact dec_of hc25)⟩, ?_, rfl⟩
          refine hw.trans ?_
          simp [Wk, wrap_succ hi1 hl]
          try omega
      · skip
        have hi1 : i = l.length := by
          have : ¬ i < l.length := by simpa using hc14
          omega
        have hZ := eq_end (by omega) hln hit
        refine AW.exit ?_
        refine hK5 _ _ ?_; try clear hK5 K5
        refine AW.regl false [4] (by rfl) fun K12 hK12 => ?_ -- region 8
        simp only [go_sem, Nat.reduceAdd, Nat.reduceEqDiff, Nat.reduceLeDiff, true_and, List.length_map, len_row]
        refine hK12 _ _ ?_; try clear hK12 K12
        conv => enter [5]; simp only [setL_cons, setL_nil, List.set_cons_zero, List.set_cons_succ]
        refine AW.ret ⟨.inr rfl, _, rfl, by simp, ?_⟩ -- return 3
        refine frzB ?_
        exact (decide_eq_true hZ).symm
end A
end Go.Proofs.Tryd
