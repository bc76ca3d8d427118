import Derived.Test.YteekpkbmkibacaaDoorLAstQ
import Derived.Test.YteekpkbmkibacaaDoorLEvChain
/-! Programs: what the functions come to. -/
namespace Go.Proofs.Tryd
set_option linter.unusedSimpArgs false
set_option linter.unusedVariables false
open Go Go.Proofs.Ev
namespace A
variable {Γ : List (Nat × List AV)}
structure VarM where
  name : ByteArray
  type : Int
structure EqM where
  nl : Bool
  lhs : List ByteArray
  rhs : E
structure NodeM where
  name : ByteArray
  nlI : Bool
  ins : List VarM
  nlO : Bool
  outs : List VarM
  nlL : Bool
  locals : List VarM
  nlE : Bool
  eqs : List EqM
structure ProgM where
  nl : Bool
  nodes : List NodeM
def VarM.enc (v : VarM) : AV := .agg [str v.name, i64 v.type]
def EqM.enc (q : EqM) : AV := .agg (rowAV 1 q.nl (q.lhs.map str) :: q.rhs.enc.cells)
def NodeM.enc (n : NodeM) : AV := .agg [str n.name, rowAV 2 n.nlI (n.ins.map VarM.enc), rowAV 2 n.nlO (n.outs.map VarM.enc), rowAV 2 n.nlL (n.locals.map VarM.enc), rowAV 6 n.nlE (n.eqs.map EqM.enc)]
def ProgM.enc (p : ProgM) : AV := .agg [rowAV 5 p.nl (p.nodes.map NodeM.enc)]
theorem var_bel (v : VarM) (n : Nat) : v.enc.bel n = true := rfl
theorem str_bel (s : ByteArray) (n : Nat) : (str s).bel n = true := rfl
theorem bel_cells (n : Nat) (e : E) : belL n e.enc.cells = true := cells_bel e n
theorem eq_bel (q : EqM) (n : Nat) : q.enc.bel n = true := by simp [EqM.enc, AV.bel, belL, row_bel str_bel, bel_cells]
theorem node_bel (q : NodeM) (n : Nat) : q.enc.bel n = true := by simp [NodeM.enc, AV.bel, belL, str_bel, row_bel var_bel, row_bel eq_bel]
theorem prog_bel (q : ProgM) (n : Nat) : AO.bel n (.cells q.enc.cells) = true := by simp [ProgM.enc, AV.cells, AO.bel, belL, row_bel node_bel]
theorem node_obel (q : NodeM) (n : Nat) : AO.bel n (.cells q.enc.cells) = true := by simp [NodeM.enc, AV.cells, AO.bel, belL, str_bel, row_bel var_bel, row_bel eq_bel]
theorem var_get160 (v : VarM) : aGet prog 160 v.enc.cells = some v.enc := by simp only [VarM.enc, go_sem]
theorem get_eq {T : TypeId} (hT : tAgg prog T = some (some 6)) (a : AV) (e : E) : aGet prog T (a :: e.enc.cells) = some (.agg (a :: e.enc.cells)) := by
  obtain ⟨b, c, d, f, r, h⟩ := enc_cells e
  rw [h, aGet_many hT]
  rfl
theorem eqc_get81 (a : AV) (e : E) : aGet prog 81 (a :: e.enc.cells) = some (.agg (a :: e.enc.cells)) := get_eq tA81 a e
theorem eqc_get128 (a : AV) (e : E) : aGet prog 128 (a :: e.enc.cells) = some (.agg (a :: e.enc.cells)) := get_eq tA128 a e
theorem eq_get128 (q : EqM) : aGet prog 128 q.enc.cells = some q.enc := eqc_get128 _ _
theorem eq_all (q : EqM) : q.enc.cells.all AV.one = true := by
  show (rowAV 1 q.nl (q.lhs.map str) :: q.rhs.enc.cells).all AV.one = true
  rw [List.all_cons, one_row, enc_one]
  rfl
theorem eq_len (q : EqM) : q.enc.cells.length = 6 := by
  show (rowAV 1 q.nl (q.lhs.map str) :: q.rhs.enc.cells).length = 6
  rw [List.length_cons, enc_len]
theorem node_get84 (q : NodeM) : aGet prog 84 q.enc.cells = some q.enc := by simp only [NodeM.enc, go_sem]
theorem node_get97 (q : NodeM) : aGet prog 97 q.enc.cells = some q.enc := by simp only [NodeM.enc, go_sem]
theorem node_all (q : NodeM) : q.enc.cells.all AV.one = true := by simp only [NodeM.enc, AV.cells, List.all_cons, List.all_nil, one_row, one_str, Bool.and_true]
theorem str_get9 (s : ByteArray) : aGet prog 9 (str s).cells = some (str s) := get9 _ []
/-! Small enough to be told. -/
def VarM.ok (v : VarM) : Prop := v.name.size ≤ 1100000
def EqM.ok (q : EqM) : Prop := (q.lhs.length ≤ 1100000 ∧ ∀ s ∈ q.lhs, s.size ≤ 1100000) ∧ q.rhs.size ≤ 1100000 ∧ q.rhs.fits
def varsOk (l : List VarM) : Prop := l.length ≤ 1100000 ∧ ∀ v ∈ l, v.ok
def NodeM.ok (n : NodeM) : Prop := n.name.size ≤ 1100000 ∧ varsOk n.ins ∧ varsOk n.outs ∧ varsOk n.locals ∧ n.eqs.length ≤ 1100000 ∧ ∀ q ∈ n.eqs, q.ok
def ProgM.ok (p : ProgM) : Prop := p.nodes.length ≤ 1100000 ∧ ∀ n ∈ p.nodes, n.ok
/-! What may be. -/
def VarM.wrong (v : VarM) : Bool := !nameM v.name || decide (v.type < 0) || decide (v.type > 1)
def varsR (l : List VarM) : Bool := decide ((l.length : Int) ≤ 1000) && !l.any VarM.wrong
def exprR (e : E) : Bool := e.shape && decide ((e.depth : Int) ≤ 200)
def EqM.right (q : EqM) : Bool := ((decide ((q.lhs.length : Int) ≥ 1) && decide ((q.lhs.length : Int) ≤ 1000)) && !q.lhs.any fun s => !nameM s) && exprR q.rhs
def NodeM.right (n : NodeM) : Bool := ((nameM n.name && (((varsR n.ins && varsR n.outs) && decide ((n.outs.length : Int) ≥ 1)) && varsR n.locals)) && decide ((n.eqs.length : Int) ≤ 1000)) && !n.eqs.any fun q => !q.right
def ProgM.right (p : ProgM) : Bool := decide ((p.nodes.length : Int) ≤ 1000) && !p.nodes.any fun n => !n.right
theorem shape_pre : ∀ e : E, e.shape = e.pre.all E.single := E.ind fun k o n s nl l ih => by
  have go : ∀ l : List E, (∀ e ∈ l, e.shape = e.pre.all E.single) → shapeL l = (preL l).all E.single := by
    intro l
    induction l with
    | nil => intro _; rfl
    | cons e l ih' =>
      intro h
      rw [shapeL, preL, List.all_append, ← h e List.mem_cons_self, ih' fun d hd => h d (List.mem_cons_of_mem _ hd)]
  rw [E.shape, E.pre, List.all_cons, go l ih, Bool.and_comm]
  rfl
/-! What is the same. -/
def VarM.key (v : VarM) : ByteArray × Int := (v.name, v.type)
def EqM.key (q : EqM) : List ByteArray × E := (q.lhs, q.rhs.norm)
abbrev KNode := ByteArray × List (ByteArray × Int) × List (ByteArray × Int) × List (ByteArray × Int) × List (List ByteArray × E)
noncomputable instance : DecidableEq KNode := fun _ _ => Classical.propDecidable _
noncomputable instance : DecidableEq (List ByteArray × E) := fun _ _ => Classical.propDecidable _
def NodeM.key (n : NodeM) : KNode := (n.name, n.ins.map VarM.key, n.outs.map VarM.key, n.locals.map VarM.key, n.eqs.map EqM.key)
def ProgM.key (p : ProgM) : List KNode := p.nodes.map NodeM.key
def EqM.own (q : EqM) : EqM := ⟨false, q.lhs, q.rhs.norm⟩
def NodeM.own (n : NodeM) : NodeM := { n with nlI := true, nlO := true, nlL := true, nlE := true, eqs := n.eqs.map EqM.own }
def ProgM.own (p : ProgM) : ProgM := ⟨true, p.nodes.map NodeM.own⟩
set_option maxRecDepth 100000 in
theorem rvars_calls (nl : Bool) (l : List VarM) (hl : varsOk l) : APure prog Γ 67 [rowAV 2 nl (l.map VarM.enc)] (.val (.bool (varsR l))) := by
  refine APure.of func67 rfl fun σ => ?_
  simp only [ntmps67, List.length_cons, List.length_nil, Nat.reduceAdd, Nat.reduceSub, List.replicate_succ, List.replicate_zero, List.cons_append, List.nil_append]
  have hl0 : l.length ≤ maxLen := by rw [maxLen_eq]; have := hl.1; omega
  refine AW.regl false [2] (by rfl) fun K1 hK1 => ?_ -- region 0
  simp only [go_sem, Nat.reduceAdd, Nat.reduceEqDiff, Nat.reduceLeDiff, true_and, ProgM.enc, NodeM.enc, EqM.enc, VarM.enc, enc_one, enc_len, enc_get43, enc_get47, eqc_get81, eqc_get128, List.length_map, List.length_cons, List.all_cons, one_row, len_row, ba_beqL]
  refine hK1 _ _ ?_; try clear hK1 K1
  conv => enter [5]; simp only [setL_cons, setL_nil, List.set_cons_zero, List.set_cons_succ]
  refine AW.seq_k fun K2 hK2 => ?_
  refine AW.regl false [3] (by rfl) fun K3 hK3 => ?_ -- region 1
  simp only [go_sem, Nat.reduceAdd, Nat.reduceEqDiff, Nat.reduceLeDiff, true_and, ProgM.enc, NodeM.enc, EqM.enc, VarM.enc, enc_one, enc_len, enc_get43, enc_get47, eqc_get81, eqc_get128, List.length_map, List.length_cons, List.all_cons, one_row, len_row, ba_beqL]
  refine hK3 _ _ ?_; try clear hK3 K3
  conv => enter [5]; simp only [setL_cons, setL_nil, List.set_cons_zero, List.set_cons_succ]
  refine AW.block ?_
  refine AW.loop_wk (α := Nat) (fun i => [(rowAV 2 nl (l.map VarM.enc)), .any, .any, (.val (.int .i64 ((i : Nat) : Int))), .any, .any, .any, .any, .any, .any, .any, .any, .any, .any, .any, .any, .any, .any, .any, .any, .any, .any, .any, .any, .any, .any, .any, .any, .any, .any, .any, .any, .any, .any, .any, .any]) (fun i => σ) (fun i => l.length - i) (fun i => i ≤ l.length ∧ (l.take i).any VarM.wrong = false) 0 ?_ ?_
  · exact ⟨⟨Nat.zero_le _, rfl⟩, by simp [Wk], rfl⟩
  · rintro i ⟨hi, hit⟩
    refine AW.seq_k fun K4 hK4 => ?_
    refine AW.regl false [7] (by rfl) fun K5 hK5 => ?_ -- region 2
    simp only [go_sem, Nat.reduceAdd, Nat.reduceEqDiff, Nat.reduceLeDiff, true_and, ProgM.enc, NodeM.enc, EqM.enc, VarM.enc, enc_one, enc_len, enc_get43, enc_get47, eqc_get81, eqc_get128, List.length_map, List.length_cons, List.all_cons, one_row, len_row, ba_beqL]
    refine hK5 _ _ ?_; try clear hK5 K5
    conv => enter [5]; simp only [setL_cons, setL_nil, List.set_cons_zero, List.set_cons_succ]
    refine AW.cond rfl (fun hc7 => ?_) (fun hc7 => ?_)
    · skip
      have hi1 : i < l.length := by simpa using hc7
      obtain ⟨v, hv⟩ : ∃ z, z = l[i] := ⟨_, rfl⟩
      have hx : (l.map VarM.enc)[i]? = some (VarM.enc v) := by rw [hv, List.getElem?_map, List.getElem?_eq_getElem hi1]; rfl
      have hvn : v.name.size ≤ 1000000000 := by have := hl.2 v (by rw [hv]; exact mem_at hi1); unfold VarM.ok at this; omega
      refine AW.skip ?_
      refine hK4 _ _ ?_; try clear hK4 K4
      refine AW.seq_k fun K6 hK6 => ?_
      refine AW.block ?_
      refine AW.regtf false 32 (.val (.bool (VarM.wrong v))) (by rfl) ?_ ?_ -- region 4
      · skip
        cases h15 : ((nameM v.name))
        · skip
          simp only [go_sem, Nat.reduceAdd, Nat.reduceEqDiff, Nat.reduceLeDiff, true_and, ProgM.enc, NodeM.enc, EqM.enc, VarM.enc, enc_one, enc_len, enc_get43, enc_get47, eqc_get81, eqc_get128, List.length_map, List.length_cons, List.all_cons, one_row, len_row, ba_beqL, at_row hx, VarM.wrong, h15]
          refine sC.of en44 ((rname_calls v.name (by first | assumption | omega)).on _).here (by rfl) ?_
          simp only [go_sem, Nat.reduceAdd, Nat.reduceEqDiff, Nat.reduceLeDiff, true_and, ProgM.enc, NodeM.enc, EqM.enc, VarM.enc, enc_one, enc_len, enc_get43, enc_get47, eqc_get81, eqc_get128, List.length_map, List.length_cons, List.all_cons, one_row, len_row, ba_beqL, at_row hx, VarM.wrong, h15]
          try simp [upd_at, h15, ProgM.enc, NodeM.enc, EqM.enc, VarM.enc, enc_one, enc_len, enc_get43, enc_get47, eqc_get81, eqc_get128, List.length_map, List.length_cons, List.all_cons, one_row, len_row, ba_beqL, at_row hx, VarM.wrong]
          all_goals try (simp_all <;> omega)
          all_goals try (rw [Bool.eq_iff_iff]; simp at *; omega)
        · skip
          cases h23 : ((v.type != 0))
          · skip
            simp only [go_sem, Nat.reduceAdd, Nat.reduceEqDiff, Nat.reduceLeDiff, true_and, ProgM.enc, NodeM.enc, EqM.enc, VarM.enc, enc_one, enc_len, enc_get43, enc_get47, eqc_get81, eqc_get128, List.length_map, List.length_cons, List.all_cons, one_row, len_row, ba_beqL, at_row hx, VarM.wrong, h15, h23]
            refine sC.of en44 ((rname_calls v.name (by first | assumption | omega)).on _).here (by rfl) ?_
            simp only [go_sem, Nat.reduceAdd, Nat.reduceEqDiff, Nat.reduceLeDiff, true_and, ProgM.enc, NodeM.enc, EqM.enc, VarM.enc, enc_one, enc_len, enc_get43, enc_get47, eqc_get81, eqc_get128, List.length_map, List.length_cons, List.all_cons, one_row, len_row, ba_beqL, at_row hx, VarM.wrong, h15, h23]
            try simp [upd_at, h15, h23, ProgM.enc, NodeM.enc, EqM.enc, VarM.enc, enc_one, enc_len, enc_get43, enc_get47, eqc_get81, eqc_get128, List.length_map, List.length_cons, List.all_cons, one_row, len_row, ba_beqL, at_row hx, VarM.wrong]
            all_goals try (simp_all <;> omega)
            all_goals try (rw [Bool.eq_iff_iff]; simp at *; omega)
          · skip
            simp only [go_sem, Nat.reduceAdd, Nat.reduceEqDiff, Nat.reduceLeDiff, true_and, ProgM.enc, NodeM.enc, EqM.enc, VarM.enc, enc_one, enc_len, enc_get43, enc_get47, eqc_get81, eqc_get128, List.length_map, List.length_cons, List.all_cons, one_row, len_row, ba_beqL, at_row hx, VarM.wrong, h15, h23]
            refine sC.of en44 ((rname_calls v.name (by first | assumption | omega)).on _).here (by rfl) ?_
            simp only [go_sem, Nat.reduceAdd, Nat.reduceEqDiff, Nat.reduceLeDiff, true_and, ProgM.enc, NodeM.enc, EqM.enc, VarM.enc, enc_one, enc_len, enc_get43, enc_get47, eqc_get81, eqc_get128, List.length_map, List.length_cons, List.all_cons, one_row, len_row, ba_beqL, at_row hx, VarM.wrong, h15, h23]
            try simp [upd_at, h15, h23, ProgM.enc, NodeM.enc, EqM.enc, VarM.enc, enc_one, enc_len, enc_get43, enc_get47, eqc_get81, eqc_get128, List.length_map, List.length_cons, List.all_cons, one_row, len_row, ba_beqL, at_row hx, VarM.wrong]
            all_goals try (simp_all <;> omega)
            all_goals try (rw [Bool.eq_iff_iff]; simp at *; omega)
      conv => enter [5]; simp only [List.set_cons_zero, List.set_cons_succ]
      refine AW.cond rfl (fun hc32 => ?_) (fun hc32 => ?_)
      · skip
        have hbad : VarM.wrong l[i] = true := by rw [← hv]; exact hc32
        refine AW.regl false [2] (by rfl) fun K8 hK8 => ?_ -- region 5
        simp only [go_sem, Nat.reduceAdd, Nat.reduceEqDiff, Nat.reduceLeDiff, true_and, ProgM.enc, NodeM.enc, EqM.enc, VarM.enc, enc_one, enc_len, enc_get43, enc_get47, eqc_get81, eqc_get128, List.length_map, List.length_cons, List.all_cons, one_row, len_row, ba_beqL]
        refine hK8 _ _ ?_; try clear hK8 K8
        conv => enter [5]; simp only [setL_cons, setL_nil, List.set_cons_zero, List.set_cons_succ]
        refine AW.ret ⟨.inr rfl, _, rfl, by simp, ?_⟩ -- return 1
        refine frzB ?_
        unfold varsR
        rw [any_at hi1 hbad]
        simp
      · skip
        have hbad : VarM.wrong l[i] = false := by rw [← hv]; exact hc32
        refine AW.skip ?_
        refine hK6 _ _ ?_; try clear hK6 K6
        refine AW.lastl false [3] (by rfl) fun K hK => ?_ -- region 3
        simp only [go_sem, Nat.reduceAdd, Nat.reduceEqDiff, Nat.reduceLeDiff, true_and, ProgM.enc, NodeM.enc, EqM.enc, VarM.enc, enc_one, enc_len, enc_get43, enc_get47, eqc_get81, eqc_get128, List.length_map, List.length_cons, List.all_cons, one_row, len_row, ba_beqL]
        refine hK _ _ fun env' hw => ?_
        simp only [setL_cons, setL_nil, List.set_cons_zero, List.set_cons_succ] at hw
        refine ⟨i + 1, by omega, ⟨by omega, any_step hi1 hit hbad⟩, ?_, rfl⟩
        refine hw.trans ?_
        simp [Wk, wrap_succ hi1 hl0]
        try omega
    · skip
      have hi1 : i = l.length := by
        have : ¬ i < l.length := by simpa using hc7
        omega
      have hall := any_end (by omega) hit
      refine AW.exit ?_
      refine hK2 _ _ ?_; try clear hK2 K2
      refine AW.regl false [2] (by rfl) fun K9 hK9 => ?_ -- region 6
      simp only [go_sem, Nat.reduceAdd, Nat.reduceEqDiff, Nat.reduceLeDiff, true_and, ProgM.enc, NodeM.enc, EqM.enc, VarM.enc, enc_one, enc_len, enc_get43, enc_get47, eqc_get81, eqc_get128, List.length_map, List.length_cons, List.all_cons, one_row, len_row, ba_beqL]
      refine hK9 _ _ ?_; try clear hK9 K9
      conv => enter [5]; simp only [setL_cons, setL_nil, List.set_cons_zero, List.set_cons_succ]
      refine AW.ret ⟨.inr rfl, _, rfl, by simp, ?_⟩ -- return 2
      refine frzB ?_
      unfold varsR
      rw [hall]
      simp

set_option maxRecDepth 100000 in
theorem wrong_calls (hΓ : Words Γ) (v : VarM) (hv : v.ok) : APure prog Γ 92 [VarM.enc v] (.val (.bool (VarM.wrong v))) := by
  refine APure.of func92 rfl fun σ => ?_
  simp only [ntmps92, List.length_cons, List.length_nil, Nat.reduceAdd, Nat.reduceSub, List.replicate_succ, List.replicate_zero, List.cons_append, List.nil_append]
  unfold VarM.ok at hv
  refine AW.regl false [1, 2] (by rfl) fun K1 hK1 => ?_ -- region 0
  simp only [go_sem, Nat.reduceAdd, Nat.reduceEqDiff, Nat.reduceLeDiff, true_and, ProgM.enc, NodeM.enc, EqM.enc, VarM.enc, enc_one, enc_len, enc_get43, enc_get47, eqc_get81, eqc_get128, List.length_map, List.length_cons, List.all_cons, one_row, len_row, ba_beqL]
  refine hK1 _ _ ?_; try clear hK1 K1
  conv => enter [5]; simp only [setL_cons, setL_nil, List.set_cons_zero, List.set_cons_succ]
  refine AW.regtf false 2 (.val (.bool ((!((nameM v.name)) || (decide (v.type < 0))) || (decide (v.type > 1))))) (by rfl) ?_ ?_ -- region 1
  · skip
    cases h5 : ((nameM v.name))
    · skip
      simp only [go_sem, Nat.reduceAdd, Nat.reduceEqDiff, Nat.reduceLeDiff, true_and, ProgM.enc, NodeM.enc, EqM.enc, VarM.enc, enc_one, enc_len, enc_get43, enc_get47, eqc_get81, eqc_get128, List.length_map, List.length_cons, List.all_cons, one_row, len_row, ba_beqL, h5]
      refine sC.of en43 ((name_calls hΓ v.name (by first | assumption | omega)).on _).here (by rfl) ?_
      simp only [go_sem, Nat.reduceAdd, Nat.reduceEqDiff, Nat.reduceLeDiff, true_and, ProgM.enc, NodeM.enc, EqM.enc, VarM.enc, enc_one, enc_len, enc_get43, enc_get47, eqc_get81, eqc_get128, List.length_map, List.length_cons, List.all_cons, one_row, len_row, ba_beqL, h5]
      try simp [upd_at, h5, ProgM.enc, NodeM.enc, EqM.enc, VarM.enc, enc_one, enc_len, enc_get43, enc_get47, eqc_get81, eqc_get128, List.length_map, List.length_cons, List.all_cons, one_row, len_row, ba_beqL]
    · skip
      cases h10 : ((decide (v.type < 0)))
      · skip
        simp only [go_sem, Nat.reduceAdd, Nat.reduceEqDiff, Nat.reduceLeDiff, true_and, ProgM.enc, NodeM.enc, EqM.enc, VarM.enc, enc_one, enc_len, enc_get43, enc_get47, eqc_get81, eqc_get128, List.length_map, List.length_cons, List.all_cons, one_row, len_row, ba_beqL, h5, h10]
        refine sC.of en43 ((name_calls hΓ v.name (by first | assumption | omega)).on _).here (by rfl) ?_
        simp only [go_sem, Nat.reduceAdd, Nat.reduceEqDiff, Nat.reduceLeDiff, true_and, ProgM.enc, NodeM.enc, EqM.enc, VarM.enc, enc_one, enc_len, enc_get43, enc_get47, eqc_get81, eqc_get128, List.length_map, List.length_cons, List.all_cons, one_row, len_row, ba_beqL, h5, h10]
        try simp [upd_at, h5, h10, ProgM.enc, NodeM.enc, EqM.enc, VarM.enc, enc_one, enc_len, enc_get43, enc_get47, eqc_get81, eqc_get128, List.length_map, List.length_cons, List.all_cons, one_row, len_row, ba_beqL]
      · skip
        simp only [go_sem, Nat.reduceAdd, Nat.reduceEqDiff, Nat.reduceLeDiff, true_and, ProgM.enc, NodeM.enc, EqM.enc, VarM.enc, enc_one, enc_len, enc_get43, enc_get47, eqc_get81, eqc_get128, List.length_map, List.length_cons, List.all_cons, one_row, len_row, ba_beqL, h5, h10]
        refine sC.of en43 ((name_calls hΓ v.name (by first | assumption | omega)).on _).here (by rfl) ?_
        simp only [go_sem, Nat.reduceAdd, Nat.reduceEqDiff, Nat.reduceLeDiff, true_and, ProgM.enc, NodeM.enc, EqM.enc, VarM.enc, enc_one, enc_len, enc_get43, enc_get47, eqc_get81, eqc_get128, List.length_map, List.length_cons, List.all_cons, one_row, len_row, ba_beqL, h5, h10]
        try simp [upd_at, h5, h10, ProgM.enc, NodeM.enc, EqM.enc, VarM.enc, enc_one, enc_len, enc_get43, enc_get47, eqc_get81, eqc_get128, List.length_map, List.length_cons, List.all_cons, one_row, len_row, ba_beqL]
  conv => enter [5]; simp only [List.set_cons_zero, List.set_cons_succ]
  refine AW.ret ⟨.inr rfl, _, rfl, by simp, ?_⟩ -- return 1
  refine frzB ?_
  rfl

set_option maxRecDepth 100000 in
theorem indexFunc107 {α : Type} (en : α → AV) (hen : ∀ a, aGet prog 160 (en a).cells = some (en a)) (nl : Bool) (l : List α) (hl : l.length ≤ maxLen) (g : FuncId) (hg : Enters prog g) (caps : List AV) (p : α → Bool) (σ : Sto) (hp : ∀ a ∈ l, APureOn prog Γ g (en a :: caps) σ (.val (.bool (p a)))) : APureOn prog Γ 107 [rowAV 2 nl (l.map en), .fn g caps] σ (.val (.int .i64 (idxFrom p 0 l))) := by
  refine APureOn.of func107 rfl fun τ => ?_
  simp only [ntmps107, List.length_cons, List.length_nil, Nat.reduceAdd, Nat.reduceSub, List.replicate_succ, List.replicate_zero, List.cons_append, List.nil_append]
  have hp' : ∀ (i : Nat) (h : i < l.length), APureOn prog Γ g (en l[i] :: caps) (σ ++ τ) (.val (.bool (p l[i]))) := fun i h => (hp _ (List.getElem_mem h)).more τ
  generalize σ ++ τ = σ at hp' ⊢
  refine AW.regl false [4] (by rfl) fun K1 hK1 => ?_ -- region 0
  simp only [go_sem, Nat.reduceAdd, Nat.reduceEqDiff, Nat.reduceLeDiff, true_and, List.length_map, hen]
  refine hK1 _ _ ?_; try clear hK1 K1
  conv => enter [5]; simp only [setL_cons, setL_nil, List.set_cons_zero, List.set_cons_succ]
  refine AW.seq_k fun K2 hK2 => ?_
  refine AW.regl false [7, 8] (by rfl) fun K3 hK3 => ?_ -- region 1
  simp only [go_sem, Nat.reduceAdd, Nat.reduceEqDiff, Nat.reduceLeDiff, true_and, List.length_map, hen]
  refine hK3 _ _ ?_; try clear hK3 K3
  conv => enter [5]; simp only [setL_cons, setL_nil, List.set_cons_zero, List.set_cons_succ]
  refine AW.block ?_
  refine AW.loop_wk (α := Nat) (fun i => [(rowAV 2 nl (l.map en)), (.fn g caps), .any, .any, .any, .any, .any, (.val (.int .i64 (l.length : Nat))), (.val (.int .i64 (i : Nat))), .any, .any, .any, .any, .any, .any, .any, .any, .any, .any]) (fun i => σ) (fun i => l.length - i) (fun i => i ≤ l.length ∧ idxFrom p 0 l = idxFrom p i (l.drop i)) 0 ?_ ?_
  · exact ⟨⟨Nat.zero_le _, rfl⟩, by simp [Wk], rfl⟩
  · rintro i ⟨hi, hix⟩
    refine AW.regl false [9] (by rfl) fun K4 hK4 => ?_ -- region 2
    simp only [go_sem, Nat.reduceAdd, Nat.reduceEqDiff, Nat.reduceLeDiff, true_and, List.length_map, hen]
    refine hK4 _ _ ?_; try clear hK4 K4
    conv => enter [5]; simp only [setL_cons, setL_nil, List.set_cons_zero, List.set_cons_succ]
    refine AW.seq_k fun K5 hK5 => ?_
    refine AW.cond rfl (fun hc9 => ?_) (fun hc9 => ?_)
    · skip
      have hc9 : i < l.length := by simpa using hc9
      have hx : (l.map en)[i]? = some (en l[i]) := by simp [hc9]
      rw [idxFrom_drop p l i hc9] at hix
      refine AW.skip ?_
      refine hK5 _ _ ?_; try clear hK5 K5
      refine AW.seq_k fun K6 hK6 => ?_
      refine AW.block ?_
      refine AW.regl false [5] (by rfl) fun K7 hK7 => ?_ -- region 3
      simp only [go_sem, Nat.reduceAdd, Nat.reduceEqDiff, Nat.reduceLeDiff, true_and, List.length_map, hen]
      refine hK7 _ _ ?_; try clear hK7 K7
      conv => enter [5]; simp only [setL_cons, setL_nil, List.set_cons_zero, List.set_cons_succ]
      refine AW.regl false [16] (by rfl) fun K8 hK8 => ?_ -- region 4
      simp only [go_sem, Nat.reduceAdd, Nat.reduceEqDiff, Nat.reduceLeDiff, true_and, List.length_map, hen, at_row hx]
      refine sC.of hg (hp' i hc9).here (by rfl) ?_
      simp only [go_sem, Nat.reduceAdd, Nat.reduceEqDiff, Nat.reduceLeDiff, true_and, List.length_map, hen, at_row hx]
      refine hK8 _ _ ?_; try clear hK8 K8
      conv => enter [5]; simp only [setL_cons, setL_nil, List.set_cons_zero, List.set_cons_succ]
      refine AW.cond rfl (fun hc16 => ?_) (fun hc16 => ?_)
      · skip
        rw [if_pos hc16] at hix
        refine AW.regl false [4] (by rfl) fun K9 hK9 => ?_ -- region 5
        simp only [go_sem, Nat.reduceAdd, Nat.reduceEqDiff, Nat.reduceLeDiff, true_and, List.length_map, hen]
        refine hK9 _ _ ?_; try clear hK9 K9
        conv => enter [5]; simp only [setL_cons, setL_nil, List.set_cons_zero, List.set_cons_succ]
        refine AW.ret ⟨.inr rfl, _, rfl, by simp, ?_⟩ -- return 1
        refine frzI ?_
        exact hix.symm
      · skip
        rw [if_neg (ne_true_of_eq_false hc16)] at hix
        refine AW.skip ?_
        refine hK6 _ _ ?_; try clear hK6 K6
        refine AW.lastl false [8] (by rfl) fun K hK => ?_ -- region 6
        simp only [go_sem, Nat.reduceAdd, Nat.reduceEqDiff, Nat.reduceLeDiff, true_and, List.length_map, hen]
        refine hK _ _ fun env' hw => ?_
        simp only [setL_cons, setL_nil, List.set_cons_zero, List.set_cons_succ] at hw
        refine ⟨i + 1, by omega, ⟨by omega, hix⟩, ?_, rfl⟩
        refine hw.trans ?_
        simp [Wk, wrap_succ hc9 hl]
    · skip
      have hc : i = l.length := by have : ¬ i < l.length := by simpa using hc9
                                   omega
      refine AW.exit ?_
      refine hK2 _ _ ?_; try clear hK2 K2
      refine AW.regl false [4] (by rfl) fun K10 hK10 => ?_ -- region 7
      simp only [go_sem, Nat.reduceAdd, Nat.reduceEqDiff, Nat.reduceLeDiff, true_and, List.length_map, hen]
      refine hK10 _ _ ?_; try clear hK10 K10
      conv => enter [5]; simp only [setL_cons, setL_nil, List.set_cons_zero, List.set_cons_succ]
      refine AW.ret ⟨.inr rfl, _, rfl, by simp, ?_⟩ -- return 2
      refine frzI ?_
      rw [hix, hc, List.drop_length]
      rfl

set_option maxRecDepth 100000 in
theorem containsFunc93 {α : Type} (en : α → AV) (hen : ∀ a, aGet prog 160 (en a).cells = some (en a)) (nl : Bool) (l : List α) (hl : l.length ≤ maxLen) (g : FuncId) (hg : Enters prog g) (caps : List AV) (p : α → Bool) (σ : Sto) (hp : ∀ a ∈ l, APureOn prog Γ g (en a :: caps) σ (.val (.bool (p a)))) : APureOn prog Γ 93 [rowAV 2 nl (l.map en), .fn g caps] σ (.val (.bool (l.any p))) := by
  refine APureOn.of func93 rfl fun τ => ?_
  simp only [ntmps93, List.length_cons, List.length_nil, Nat.reduceAdd, Nat.reduceSub, List.replicate_succ, List.replicate_zero, List.cons_append, List.nil_append]
  have hi := (indexFunc107 en hen nl l hl g hg caps p σ hp).more τ
  generalize σ ++ τ = σ at hi ⊢
  refine AW.regl false [4] (by rfl) fun K1 hK1 => ?_ -- region 0
  simp only [go_sem, Nat.reduceAdd, Nat.reduceEqDiff, Nat.reduceLeDiff, true_and]
  refine hK1 _ _ ?_; try clear hK1 K1
  conv => enter [5]; simp only [setL_cons, setL_nil, List.set_cons_zero, List.set_cons_succ]
  refine AW.regl false [4] (by rfl) fun K2 hK2 => ?_ -- region 1
  simp only [go_sem, Nat.reduceAdd, Nat.reduceEqDiff, Nat.reduceLeDiff, true_and]
  refine sC.of en107 (hi).here (by rfl) ?_
  simp only [go_sem, Nat.reduceAdd, Nat.reduceEqDiff, Nat.reduceLeDiff, true_and]
  refine hK2 _ _ ?_; try clear hK2 K2
  conv => enter [5]; simp only [setL_cons, setL_nil, List.set_cons_zero, List.set_cons_succ]
  refine AW.ret ⟨.inr rfl, _, rfl, by simp, ?_⟩ -- return 1
  refine frzB ?_
  exact idxFrom_nonneg p l 0

set_option maxRecDepth 100000 in
theorem vars_calls (hΓ : Words Γ) (nl : Bool) (l : List VarM) (hl : varsOk l) : APure prog Γ 63 [rowAV 2 nl (l.map VarM.enc)] (.val (.bool (varsR l))) := by
  refine APure.of func63 rfl fun σ => ?_
  simp only [ntmps63, List.length_cons, List.length_nil, Nat.reduceAdd, Nat.reduceSub, List.replicate_succ, List.replicate_zero, List.cons_append, List.nil_append]
  have hl0 : l.length ≤ maxLen := by rw [maxLen_eq]; have := hl.1; omega
  refine AW.regl false [2] (by rfl) fun K1 hK1 => ?_ -- region 0
  simp only [go_sem, Nat.reduceAdd, Nat.reduceEqDiff, Nat.reduceLeDiff, true_and, ProgM.enc, NodeM.enc, EqM.enc, VarM.enc, enc_one, enc_len, enc_get43, enc_get47, eqc_get81, eqc_get128, List.length_map, List.length_cons, List.all_cons, one_row, len_row, ba_beqL]
  refine hK1 _ _ ?_; try clear hK1 K1
  conv => enter [5]; simp only [setL_cons, setL_nil, List.set_cons_zero, List.set_cons_succ]
  refine AW.regl false [3] (by rfl) fun K2 hK2 => ?_ -- region 1
  simp only [go_sem, Nat.reduceAdd, Nat.reduceEqDiff, Nat.reduceLeDiff, true_and, ProgM.enc, NodeM.enc, EqM.enc, VarM.enc, enc_one, enc_len, enc_get43, enc_get47, eqc_get81, eqc_get128, List.length_map, List.length_cons, List.all_cons, one_row, len_row, ba_beqL]
  refine hK2 _ _ ?_; try clear hK2 K2
  conv => enter [5]; simp only [setL_cons, setL_nil, List.set_cons_zero, List.set_cons_succ]
  refine AW.regtf false 2 (.val (.bool ((decide (((l.length : Nat) : Int) ≤ 1000)) && !((l.any VarM.wrong))))) (by rfl) ?_ ?_ -- region 2
  · skip
    cases h6 : ((decide (((l.length : Nat) : Int) ≤ 1000)))
    · skip
      simp only [go_sem, Nat.reduceAdd, Nat.reduceEqDiff, Nat.reduceLeDiff, true_and, ProgM.enc, NodeM.enc, EqM.enc, VarM.enc, enc_one, enc_len, enc_get43, enc_get47, eqc_get81, eqc_get128, List.length_map, List.length_cons, List.all_cons, one_row, len_row, ba_beqL, h6]
      try simp [upd_at, h6, ProgM.enc, NodeM.enc, EqM.enc, VarM.enc, enc_one, enc_len, enc_get43, enc_get47, eqc_get81, eqc_get128, List.length_map, List.length_cons, List.all_cons, one_row, len_row, ba_beqL]
    · skip
      simp only [go_sem, Nat.reduceAdd, Nat.reduceEqDiff, Nat.reduceLeDiff, true_and, ProgM.enc, NodeM.enc, EqM.enc, VarM.enc, enc_one, enc_len, enc_get43, enc_get47, eqc_get81, eqc_get128, List.length_map, List.length_cons, List.all_cons, one_row, len_row, ba_beqL, h6]
      refine sC.of en93 ((containsFunc93 VarM.enc var_get160 nl l hl0 92 en92 [] VarM.wrong σ (fun v hv => (wrong_calls hΓ v (hl.2 v hv)).on _))).here (by rfl) ?_
      simp only [go_sem, Nat.reduceAdd, Nat.reduceEqDiff, Nat.reduceLeDiff, true_and, ProgM.enc, NodeM.enc, EqM.enc, VarM.enc, enc_one, enc_len, enc_get43, enc_get47, eqc_get81, eqc_get128, List.length_map, List.length_cons, List.all_cons, one_row, len_row, ba_beqL, h6]
      try simp [upd_at, h6, ProgM.enc, NodeM.enc, EqM.enc, VarM.enc, enc_one, enc_len, enc_get43, enc_get47, eqc_get81, eqc_get128, List.length_map, List.length_cons, List.all_cons, one_row, len_row, ba_beqL]
  conv => enter [5]; simp only [List.set_cons_zero, List.set_cons_succ]
  refine AW.ret ⟨.inr rfl, _, rfl, by simp, ?_⟩ -- return 1
  refine frzB ?_
  rfl

set_option maxRecDepth 100000 in
theorem badname_calls (hΓ : Words Γ) (s : ByteArray) (hs : s.size ≤ 1000000000) : APure prog Γ 96 [.val (.string s)] (.val (.bool (!nameM s))) := by
  refine APure.of func96 rfl fun σ => ?_
  simp only [ntmps96, List.length_cons, List.length_nil, Nat.reduceAdd, Nat.reduceSub, List.replicate_succ, List.replicate_zero, List.cons_append, List.nil_append]
  refine AW.regl false [2] (by rfl) fun K1 hK1 => ?_ -- region 0
  simp only [go_sem, Nat.reduceAdd, Nat.reduceEqDiff, Nat.reduceLeDiff, true_and, ProgM.enc, NodeM.enc, EqM.enc, VarM.enc, enc_one, enc_len, enc_get43, enc_get47, eqc_get81, eqc_get128, List.length_map, List.length_cons, List.all_cons, one_row, len_row, ba_beqL]
  refine hK1 _ _ ?_; try clear hK1 K1
  conv => enter [5]; simp only [setL_cons, setL_nil, List.set_cons_zero, List.set_cons_succ]
  refine AW.regl false [2] (by rfl) fun K2 hK2 => ?_ -- region 1
  simp only [go_sem, Nat.reduceAdd, Nat.reduceEqDiff, Nat.reduceLeDiff, true_and, ProgM.enc, NodeM.enc, EqM.enc, VarM.enc, enc_one, enc_len, enc_get43, enc_get47, eqc_get81, eqc_get128, List.length_map, List.length_cons, List.all_cons, one_row, len_row, ba_beqL]
  refine sC.of en43 ((name_calls hΓ s (by first | assumption | omega)).on _).here (by rfl) ?_
  simp only [go_sem, Nat.reduceAdd, Nat.reduceEqDiff, Nat.reduceLeDiff, true_and, ProgM.enc, NodeM.enc, EqM.enc, VarM.enc, enc_one, enc_len, enc_get43, enc_get47, eqc_get81, eqc_get128, List.length_map, List.length_cons, List.all_cons, one_row, len_row, ba_beqL]
  refine hK2 _ _ ?_; try clear hK2 K2
  conv => enter [5]; simp only [setL_cons, setL_nil, List.set_cons_zero, List.set_cons_succ]
  refine AW.ret ⟨.inr rfl, _, rfl, by simp, ?_⟩ -- return 1
  refine frzB ?_
  rfl

set_option maxRecDepth 100000 in
theorem indexFunc108 {α : Type} (en : α → AV) (hen : ∀ a, aGet prog 9 (en a).cells = some (en a)) (nl : Bool) (l : List α) (hl : l.length ≤ maxLen) (g : FuncId) (hg : Enters prog g) (caps : List AV) (p : α → Bool) (σ : Sto) (hp : ∀ a ∈ l, APureOn prog Γ g (en a :: caps) σ (.val (.bool (p a)))) : APureOn prog Γ 108 [rowAV 1 nl (l.map en), .fn g caps] σ (.val (.int .i64 (idxFrom p 0 l))) := by
  refine APureOn.of func108 rfl fun τ => ?_
  simp only [ntmps108, List.length_cons, List.length_nil, Nat.reduceAdd, Nat.reduceSub, List.replicate_succ, List.replicate_zero, List.cons_append, List.nil_append]
  have hp' : ∀ (i : Nat) (h : i < l.length), APureOn prog Γ g (en l[i] :: caps) (σ ++ τ) (.val (.bool (p l[i]))) := fun i h => (hp _ (List.getElem_mem h)).more τ
  generalize σ ++ τ = σ at hp' ⊢
  refine AW.regl false [4] (by rfl) fun K1 hK1 => ?_ -- region 0
  simp only [go_sem, Nat.reduceAdd, Nat.reduceEqDiff, Nat.reduceLeDiff, true_and, List.length_map, hen]
  refine hK1 _ _ ?_; try clear hK1 K1
  conv => enter [5]; simp only [setL_cons, setL_nil, List.set_cons_zero, List.set_cons_succ]
  refine AW.seq_k fun K2 hK2 => ?_
  refine AW.regl false [7, 8] (by rfl) fun K3 hK3 => ?_ -- region 1
  simp only [go_sem, Nat.reduceAdd, Nat.reduceEqDiff, Nat.reduceLeDiff, true_and, List.length_map, hen]
  refine hK3 _ _ ?_; try clear hK3 K3
  conv => enter [5]; simp only [setL_cons, setL_nil, List.set_cons_zero, List.set_cons_succ]
  refine AW.block ?_
  refine AW.loop_wk (α := Nat) (fun i => [(rowAV 1 nl (l.map en)), (.fn g caps), .any, .any, .any, .any, .any, (.val (.int .i64 (l.length : Nat))), (.val (.int .i64 (i : Nat))), .any, .any, .any, .any, .any, .any, .any, .any, .any, .any]) (fun i => σ) (fun i => l.length - i) (fun i => i ≤ l.length ∧ idxFrom p 0 l = idxFrom p i (l.drop i)) 0 ?_ ?_
  · exact ⟨⟨Nat.zero_le _, rfl⟩, by simp [Wk], rfl⟩
  · rintro i ⟨hi, hix⟩
    refine AW.regl false [9] (by rfl) fun K4 hK4 => ?_ -- region 2
    simp only [go_sem, Nat.reduceAdd, Nat.reduceEqDiff, Nat.reduceLeDiff, true_and, List.length_map, hen]
    refine hK4 _ _ ?_; try clear hK4 K4
    conv => enter [5]; simp only [setL_cons, setL_nil, List.set_cons_zero, List.set_cons_succ]
    refine AW.seq_k fun K5 hK5 => ?_
    refine AW.cond rfl (fun hc9 => ?_) (fun hc9 => ?_)
    · skip
      have hc9 : i < l.length := by simpa using hc9
      have hx : (l.map en)[i]? = some (en l[i]) := by simp [hc9]
      rw [idxFrom_drop p l i hc9] at hix
      refine AW.skip ?_
      refine hK5 _ _ ?_; try clear hK5 K5
      refine AW.seq_k fun K6 hK6 => ?_
      refine AW.block ?_
      refine AW.regl false [5] (by rfl) fun K7 hK7 => ?_ -- region 3
      simp only [go_sem, Nat.reduceAdd, Nat.reduceEqDiff, Nat.reduceLeDiff, true_and, List.length_map, hen]
      refine hK7 _ _ ?_; try clear hK7 K7
      conv => enter [5]; simp only [setL_cons, setL_nil, List.set_cons_zero, List.set_cons_succ]
      refine AW.regl false [16] (by rfl) fun K8 hK8 => ?_ -- region 4
      simp only [go_sem, Nat.reduceAdd, Nat.reduceEqDiff, Nat.reduceLeDiff, true_and, List.length_map, hen, at_row hx]
      refine sC.of hg (hp' i hc9).here (by rfl) ?_
      simp only [go_sem, Nat.reduceAdd, Nat.reduceEqDiff, Nat.reduceLeDiff, true_and, List.length_map, hen, at_row hx]
      refine hK8 _ _ ?_; try clear hK8 K8
      conv => enter [5]; simp only [setL_cons, setL_nil, List.set_cons_zero, List.set_cons_succ]
      refine AW.cond rfl (fun hc16 => ?_) (fun hc16 => ?_)
      · skip
        rw [if_pos hc16] at hix
        refine AW.regl false [4] (by rfl) fun K9 hK9 => ?_ -- region 5
        simp only [go_sem, Nat.reduceAdd, Nat.reduceEqDiff, Nat.reduceLeDiff, true_and, List.length_map, hen]
        refine hK9 _ _ ?_; try clear hK9 K9
        conv => enter [5]; simp only [setL_cons, setL_nil, List.set_cons_zero, List.set_cons_succ]
        refine AW.ret ⟨.inr rfl, _, rfl, by simp, ?_⟩ -- return 1
        refine frzI ?_
        exact hix.symm
      · skip
        rw [if_neg (ne_true_of_eq_false hc16)] at hix
        refine AW.skip ?_
        refine hK6 _ _ ?_; try clear hK6 K6
        refine AW.lastl false [8] (by rfl) fun K hK => ?_ -- region 6
        simp only [go_sem, Nat.reduceAdd, Nat.reduceEqDiff, Nat.reduceLeDiff, true_and, List.length_map, hen]
        refine hK _ _ fun env' hw => ?_
        simp only [setL_cons, setL_nil, List.set_cons_zero, List.set_cons_succ] at hw
        refine ⟨i + 1, by omega, ⟨by omega, hix⟩, ?_, rfl⟩
        refine hw.trans ?_
        simp [Wk, wrap_succ hc9 hl]
    · skip
      have hc : i = l.length := by have : ¬ i < l.length := by simpa using hc9
                                   omega
      refine AW.exit ?_
      refine hK2 _ _ ?_; try clear hK2 K2
      refine AW.regl false [4] (by rfl) fun K10 hK10 => ?_ -- region 7
      simp only [go_sem, Nat.reduceAdd, Nat.reduceEqDiff, Nat.reduceLeDiff, true_and, List.length_map, hen]
      refine hK10 _ _ ?_; try clear hK10 K10
      conv => enter [5]; simp only [setL_cons, setL_nil, List.set_cons_zero, List.set_cons_succ]
      refine AW.ret ⟨.inr rfl, _, rfl, by simp, ?_⟩ -- return 2
      refine frzI ?_
      rw [hix, hc, List.drop_length]
      rfl

set_option maxRecDepth 100000 in
theorem containsFunc95 {α : Type} (en : α → AV) (hen : ∀ a, aGet prog 9 (en a).cells = some (en a)) (nl : Bool) (l : List α) (hl : l.length ≤ maxLen) (g : FuncId) (hg : Enters prog g) (caps : List AV) (p : α → Bool) (σ : Sto) (hp : ∀ a ∈ l, APureOn prog Γ g (en a :: caps) σ (.val (.bool (p a)))) : APureOn prog Γ 95 [rowAV 1 nl (l.map en), .fn g caps] σ (.val (.bool (l.any p))) := by
  refine APureOn.of func95 rfl fun τ => ?_
  simp only [ntmps95, List.length_cons, List.length_nil, Nat.reduceAdd, Nat.reduceSub, List.replicate_succ, List.replicate_zero, List.cons_append, List.nil_append]
  have hi := (indexFunc108 en hen nl l hl g hg caps p σ hp).more τ
  generalize σ ++ τ = σ at hi ⊢
  refine AW.regl false [4] (by rfl) fun K1 hK1 => ?_ -- region 0
  simp only [go_sem, Nat.reduceAdd, Nat.reduceEqDiff, Nat.reduceLeDiff, true_and]
  refine hK1 _ _ ?_; try clear hK1 K1
  conv => enter [5]; simp only [setL_cons, setL_nil, List.set_cons_zero, List.set_cons_succ]
  refine AW.regl false [4] (by rfl) fun K2 hK2 => ?_ -- region 1
  simp only [go_sem, Nat.reduceAdd, Nat.reduceEqDiff, Nat.reduceLeDiff, true_and]
  refine sC.of en108 (hi).here (by rfl) ?_
  simp only [go_sem, Nat.reduceAdd, Nat.reduceEqDiff, Nat.reduceLeDiff, true_and]
  refine hK2 _ _ ?_; try clear hK2 K2
  conv => enter [5]; simp only [setL_cons, setL_nil, List.set_cons_zero, List.set_cons_succ]
  refine AW.ret ⟨.inr rfl, _, rfl, by simp, ?_⟩ -- return 1
  refine frzB ?_
  exact idxFrom_nonneg p l 0

set_option maxRecDepth 100000 in
theorem eqright_calls (hΓ : Words Γ) (q : EqM) (hok : q.ok) : APure prog Γ 66 [EqM.enc q] (.val (.bool q.right)) := by
  refine APure.of func66 rfl fun σ => ?_
  simp only [ntmps66, List.length_cons, List.length_nil, Nat.reduceAdd, Nat.reduceSub, List.replicate_succ, List.replicate_zero, List.cons_append, List.nil_append]
  have hl0 : q.lhs.length ≤ maxLen := by rw [maxLen_eq]; have := hok.1.1; omega
  have hrx : APure prog Γ 13 [q.rhs.enc] (bool (exprR q.rhs)) := by
    have := right_calls hΓ q.rhs (by have := hok.2.1; omega) hok.2.2
    rwa [← shape_pre] at this
  refine AW.regl false [1, 2] (by rfl) fun K1 hK1 => ?_ -- region 0
  simp only [go_sem, Nat.reduceAdd, Nat.reduceEqDiff, Nat.reduceLeDiff, true_and, ProgM.enc, NodeM.enc, EqM.enc, VarM.enc, enc_one, enc_len, enc_get43, enc_get47, eqc_get81, eqc_get128, List.length_map, List.length_cons, List.all_cons, one_row, len_row, ba_beqL, List.drop_succ_cons, List.drop_zero]
  refine hK1 _ _ ?_; try clear hK1 K1
  conv => enter [5]; simp only [setL_cons, setL_nil, List.set_cons_zero, List.set_cons_succ]
  refine AW.regcuts fun K2 hK2 => ?_ -- region 1
  refine AOps.cut false 10 12 (.val (.bool ((decide (((q.lhs.length : Nat) : Int) ≥ 1)) && (decide (((q.lhs.length : Nat) : Int) ≤ 1000))))) (by rfl) ?_ ?_
  · skip
    cases h6 : ((decide (((q.lhs.length : Nat) : Int) ≥ 1)))
    · skip
      simp only [go_sem, Nat.reduceAdd, Nat.reduceEqDiff, Nat.reduceLeDiff, true_and, ProgM.enc, NodeM.enc, EqM.enc, VarM.enc, enc_one, enc_len, enc_get43, enc_get47, eqc_get81, eqc_get128, List.length_map, List.length_cons, List.all_cons, one_row, len_row, ba_beqL, List.drop_succ_cons, List.drop_zero, List.take_succ_cons, List.take_zero, h6]
      try simp [upd_at, h6, ProgM.enc, NodeM.enc, EqM.enc, VarM.enc, enc_one, enc_len, enc_get43, enc_get47, eqc_get81, eqc_get128, List.length_map, List.length_cons, List.all_cons, one_row, len_row, ba_beqL, List.drop_succ_cons, List.drop_zero]
    · skip
      simp only [go_sem, Nat.reduceAdd, Nat.reduceEqDiff, Nat.reduceLeDiff, true_and, ProgM.enc, NodeM.enc, EqM.enc, VarM.enc, enc_one, enc_len, enc_get43, enc_get47, eqc_get81, eqc_get128, List.length_map, List.length_cons, List.all_cons, one_row, len_row, ba_beqL, List.drop_succ_cons, List.drop_zero, List.take_succ_cons, List.take_zero, h6]
      try simp [upd_at, h6, ProgM.enc, NodeM.enc, EqM.enc, VarM.enc, enc_one, enc_len, enc_get43, enc_get47, eqc_get81, eqc_get128, List.length_map, List.length_cons, List.all_cons, one_row, len_row, ba_beqL, List.drop_succ_cons, List.drop_zero]
  simp only [List.drop_succ_cons, List.drop_zero, List.set_cons_zero, List.set_cons_succ]
  refine AOps.cut false 6 18 (.val (.bool (((decide (((q.lhs.length : Nat) : Int) ≥ 1)) && (decide (((q.lhs.length : Nat) : Int) ≤ 1000))) && !((q.lhs.any fun s => !nameM s))))) (by rfl) ?_ ?_
  · skip
    cases h12 : (((decide (((q.lhs.length : Nat) : Int) ≥ 1)) && (decide (((q.lhs.length : Nat) : Int) ≤ 1000))))
    · skip
      simp only [go_sem, Nat.reduceAdd, Nat.reduceEqDiff, Nat.reduceLeDiff, true_and, ProgM.enc, NodeM.enc, EqM.enc, VarM.enc, enc_one, enc_len, enc_get43, enc_get47, eqc_get81, eqc_get128, List.length_map, List.length_cons, List.all_cons, one_row, len_row, ba_beqL, List.drop_succ_cons, List.drop_zero, List.take_succ_cons, List.take_zero, h12]
      try simp [upd_at, h12, ProgM.enc, NodeM.enc, EqM.enc, VarM.enc, enc_one, enc_len, enc_get43, enc_get47, eqc_get81, eqc_get128, List.length_map, List.length_cons, List.all_cons, one_row, len_row, ba_beqL, List.drop_succ_cons, List.drop_zero]
    · skip
      simp only [go_sem, Nat.reduceAdd, Nat.reduceEqDiff, Nat.reduceLeDiff, true_and, ProgM.enc, NodeM.enc, EqM.enc, VarM.enc, enc_one, enc_len, enc_get43, enc_get47, eqc_get81, eqc_get128, List.length_map, List.length_cons, List.all_cons, one_row, len_row, ba_beqL, List.drop_succ_cons, List.drop_zero, List.take_succ_cons, List.take_zero, h12]
      refine sC.of en95 ((containsFunc95 str str_get9 q.nl q.lhs hl0 96 en96 [] (fun s => !nameM s) _ (fun s hs => (badname_calls hΓ s (by have := hok.1.2 s hs; omega)).on _))).here (by rfl) ?_
      simp only [go_sem, Nat.reduceAdd, Nat.reduceEqDiff, Nat.reduceLeDiff, true_and, ProgM.enc, NodeM.enc, EqM.enc, VarM.enc, enc_one, enc_len, enc_get43, enc_get47, eqc_get81, eqc_get128, List.length_map, List.length_cons, List.all_cons, one_row, len_row, ba_beqL, List.drop_succ_cons, List.drop_zero, List.take_succ_cons, List.take_zero, h12]
      try simp [upd_at, h12, ProgM.enc, NodeM.enc, EqM.enc, VarM.enc, enc_one, enc_len, enc_get43, enc_get47, eqc_get81, eqc_get128, List.length_map, List.length_cons, List.all_cons, one_row, len_row, ba_beqL, List.drop_succ_cons, List.drop_zero]
  simp only [List.drop_succ_cons, List.drop_zero, List.set_cons_zero, List.set_cons_succ]
  refine AOps.cut false 6 2 (.val (.bool ((((decide (((q.lhs.length : Nat) : Int) ≥ 1)) && (decide (((q.lhs.length : Nat) : Int) ≤ 1000))) && !((q.lhs.any fun s => !nameM s))) && (exprR q.rhs)))) (by rfl) ?_ ?_
  · skip
    cases h18 : ((((decide (((q.lhs.length : Nat) : Int) ≥ 1)) && (decide (((q.lhs.length : Nat) : Int) ≤ 1000))) && !((q.lhs.any fun s => !nameM s))))
    · skip
      simp only [go_sem, Nat.reduceAdd, Nat.reduceEqDiff, Nat.reduceLeDiff, true_and, ProgM.enc, NodeM.enc, EqM.enc, VarM.enc, enc_one, enc_len, enc_get43, enc_get47, eqc_get81, eqc_get128, List.length_map, List.length_cons, List.all_cons, one_row, len_row, ba_beqL, List.drop_succ_cons, List.drop_zero, List.take_succ_cons, List.take_zero, h18]
      try simp [upd_at, h18, ProgM.enc, NodeM.enc, EqM.enc, VarM.enc, enc_one, enc_len, enc_get43, enc_get47, eqc_get81, eqc_get128, List.length_map, List.length_cons, List.all_cons, one_row, len_row, ba_beqL, List.drop_succ_cons, List.drop_zero]
    · skip
      simp only [go_sem, Nat.reduceAdd, Nat.reduceEqDiff, Nat.reduceLeDiff, true_and, ProgM.enc, NodeM.enc, EqM.enc, VarM.enc, enc_one, enc_len, enc_get43, enc_get47, eqc_get81, eqc_get128, List.length_map, List.length_cons, List.all_cons, one_row, len_row, ba_beqL, List.drop_succ_cons, List.drop_zero, List.take_succ_cons, List.take_zero, h18]
      refine sC.of en13 (hrx.on _).here (by rfl) ?_
      simp only [go_sem, Nat.reduceAdd, Nat.reduceEqDiff, Nat.reduceLeDiff, true_and, ProgM.enc, NodeM.enc, EqM.enc, VarM.enc, enc_one, enc_len, enc_get43, enc_get47, eqc_get81, eqc_get128, List.length_map, List.length_cons, List.all_cons, one_row, len_row, ba_beqL, List.drop_succ_cons, List.drop_zero, List.take_succ_cons, List.take_zero, h18]
      try simp [upd_at, h18, ProgM.enc, NodeM.enc, EqM.enc, VarM.enc, enc_one, enc_len, enc_get43, enc_get47, eqc_get81, eqc_get128, List.length_map, List.length_cons, List.all_cons, one_row, len_row, ba_beqL, List.drop_succ_cons, List.drop_zero]
  simp only [List.drop_succ_cons, List.drop_zero, List.set_cons_zero, List.set_cons_succ]
  refine AOps.nil (hK2 _ _ ?_); try clear hK2 K2
  refine AW.ret ⟨.inr rfl, _, rfl, by simp, ?_⟩ -- return 1
  refine frzB ?_
  rfl

set_option maxRecDepth 100000 in
theorem eqwrong_calls (hΓ : Words Γ) (q : EqM) (hok : q.ok) : APure prog Γ 65 [EqM.enc q] (.val (.bool !q.right)) := by
  refine APure.of func65 rfl fun σ => ?_
  simp only [ntmps65, List.length_cons, List.length_nil, Nat.reduceAdd, Nat.reduceSub, List.replicate_succ, List.replicate_zero, List.cons_append, List.nil_append]
  refine AW.regl false [1, 2] (by rfl) fun K1 hK1 => ?_ -- region 0
  simp only [go_sem, Nat.reduceAdd, Nat.reduceEqDiff, Nat.reduceLeDiff, true_and, ProgM.enc, NodeM.enc, EqM.enc, VarM.enc, enc_one, enc_len, enc_get43, enc_get47, eqc_get81, eqc_get128, List.length_map, List.length_cons, List.all_cons, one_row, len_row, ba_beqL]
  refine hK1 _ _ ?_; try clear hK1 K1
  conv => enter [5]; simp only [setL_cons, setL_nil, List.set_cons_zero, List.set_cons_succ]
  refine AW.regl false [2] (by rfl) fun K2 hK2 => ?_ -- region 1
  simp only [go_sem, Nat.reduceAdd, Nat.reduceEqDiff, Nat.reduceLeDiff, true_and, ProgM.enc, NodeM.enc, EqM.enc, VarM.enc, enc_one, enc_len, enc_get43, enc_get47, eqc_get81, eqc_get128, List.length_map, List.length_cons, List.all_cons, one_row, len_row, ba_beqL]
  refine sC.of en66 ((eqright_calls hΓ q hok).on _).here (by rfl) ?_
  simp only [go_sem, Nat.reduceAdd, Nat.reduceEqDiff, Nat.reduceLeDiff, true_and, ProgM.enc, NodeM.enc, EqM.enc, VarM.enc, enc_one, enc_len, enc_get43, enc_get47, eqc_get81, eqc_get128, List.length_map, List.length_cons, List.all_cons, one_row, len_row, ba_beqL]
  refine hK2 _ _ ?_; try clear hK2 K2
  conv => enter [5]; simp only [setL_cons, setL_nil, List.set_cons_zero, List.set_cons_succ]
  refine AW.ret ⟨.inr rfl, _, rfl, by simp, ?_⟩ -- return 1
  refine frzB ?_
  rfl

set_option maxRecDepth 100000 in
theorem indexFunc94 {α : Type} (en : α → AV) (hen : ∀ a, aGet prog 128 (en a).cells = some (en a)) (nl : Bool) (l : List α) (hl : l.length ≤ maxLen) (g : FuncId) (hg : Enters prog g) (caps : List AV) (p : α → Bool) (σ : Sto) (hp : ∀ a ∈ l, APureOn prog Γ g (en a :: caps) σ (.val (.bool (p a)))) : APureOn prog Γ 94 [rowAV 6 nl (l.map en), .fn g caps] σ (.val (.int .i64 (idxFrom p 0 l))) := by
  refine APureOn.of func94 rfl fun τ => ?_
  simp only [ntmps94, List.length_cons, List.length_nil, Nat.reduceAdd, Nat.reduceSub, List.replicate_succ, List.replicate_zero, List.cons_append, List.nil_append]
  have hp' : ∀ (i : Nat) (h : i < l.length), APureOn prog Γ g (en l[i] :: caps) (σ ++ τ) (.val (.bool (p l[i]))) := fun i h => (hp _ (List.getElem_mem h)).more τ
  generalize σ ++ τ = σ at hp' ⊢
  refine AW.regl false [4] (by rfl) fun K1 hK1 => ?_ -- region 0
  simp only [go_sem, Nat.reduceAdd, Nat.reduceEqDiff, Nat.reduceLeDiff, true_and, List.length_map, hen]
  refine hK1 _ _ ?_; try clear hK1 K1
  conv => enter [5]; simp only [setL_cons, setL_nil, List.set_cons_zero, List.set_cons_succ]
  refine AW.seq_k fun K2 hK2 => ?_
  refine AW.regl false [7, 8] (by rfl) fun K3 hK3 => ?_ -- region 1
  simp only [go_sem, Nat.reduceAdd, Nat.reduceEqDiff, Nat.reduceLeDiff, true_and, List.length_map, hen]
  refine hK3 _ _ ?_; try clear hK3 K3
  conv => enter [5]; simp only [setL_cons, setL_nil, List.set_cons_zero, List.set_cons_succ]
  refine AW.block ?_
  refine AW.loop_wk (α := Nat) (fun i => [(rowAV 6 nl (l.map en)), (.fn g caps), .any, .any, .any, .any, .any, (.val (.int .i64 (l.length : Nat))), (.val (.int .i64 (i : Nat))), .any, .any, .any, .any, .any, .any, .any, .any, .any, .any]) (fun i => σ) (fun i => l.length - i) (fun i => i ≤ l.length ∧ idxFrom p 0 l = idxFrom p i (l.drop i)) 0 ?_ ?_
  · exact ⟨⟨Nat.zero_le _, rfl⟩, by simp [Wk], rfl⟩
  · rintro i ⟨hi, hix⟩
    refine AW.regl false [9] (by rfl) fun K4 hK4 => ?_ -- region 2
    simp only [go_sem, Nat.reduceAdd, Nat.reduceEqDiff, Nat.reduceLeDiff, true_and, List.length_map, hen]
    refine hK4 _ _ ?_; try clear hK4 K4
    conv => enter [5]; simp only [setL_cons, setL_nil, List.set_cons_zero, List.set_cons_succ]
    refine AW.seq_k fun K5 hK5 => ?_
    refine AW.cond rfl (fun hc9 => ?_) (fun hc9 => ?_)
    · skip
      have hc9 : i < l.length := by simpa using hc9
      have hx : (l.map en)[i]? = some (en l[i]) := by simp [hc9]
      rw [idxFrom_drop p l i hc9] at hix
      refine AW.skip ?_
      refine hK5 _ _ ?_; try clear hK5 K5
      refine AW.seq_k fun K6 hK6 => ?_
      refine AW.block ?_
      refine AW.regl false [5] (by rfl) fun K7 hK7 => ?_ -- region 3
      simp only [go_sem, Nat.reduceAdd, Nat.reduceEqDiff, Nat.reduceLeDiff, true_and, List.length_map, hen]
      refine hK7 _ _ ?_; try clear hK7 K7
      conv => enter [5]; simp only [setL_cons, setL_nil, List.set_cons_zero, List.set_cons_succ]
      refine AW.regl false [16] (by rfl) fun K8 hK8 => ?_ -- region 4
      simp only [go_sem, Nat.reduceAdd, Nat.reduceEqDiff, Nat.reduceLeDiff, true_and, List.length_map, hen, at_row hx]
      refine sC.of hg (hp' i hc9).here (by rfl) ?_
      simp only [go_sem, Nat.reduceAdd, Nat.reduceEqDiff, Nat.reduceLeDiff, true_and, List.length_map, hen, at_row hx]
      refine hK8 _ _ ?_; try clear hK8 K8
      conv => enter [5]; simp only [setL_cons, setL_nil, List.set_cons_zero, List.set_cons_succ]
      refine AW.cond rfl (fun hc16 => ?_) (fun hc16 => ?_)
      · skip
        rw [if_pos hc16] at hix
        refine AW.regl false [4] (by rfl) fun K9 hK9 => ?_ -- region 5
        simp only [go_sem, Nat.reduceAdd, Nat.reduceEqDiff, Nat.reduceLeDiff, true_and, List.length_map, hen]
        refine hK9 _ _ ?_; try clear hK9 K9
        conv => enter [5]; simp only [setL_cons, setL_nil, List.set_cons_zero, List.set_cons_succ]
        refine AW.ret ⟨.inr rfl, _, rfl, by simp, ?_⟩ -- return 1
        refine frzI ?_
        exact hix.symm
      · skip
        rw [if_neg (ne_true_of_eq_false hc16)] at hix
        refine AW.skip ?_
        refine hK6 _ _ ?_; try clear hK6 K6
        refine AW.lastl false [8] (by rfl) fun K hK => ?_ -- region 6
        simp only [go_sem, Nat.reduceAdd, Nat.reduceEqDiff, Nat.reduceLeDiff, true_and, List.length_map, hen]
        refine hK _ _ fun env' hw => ?_
        simp only [setL_cons, setL_nil, List.set_cons_zero, List.set_cons_succ] at hw
        refine ⟨i + 1, by omega, ⟨by omega, hix⟩, ?_, rfl⟩
        refine hw.trans ?_
        simp [Wk, wrap_succ hc9 hl]
    · skip
      have hc : i = l.length := by have : ¬ i < l.length := by simpa using hc9
                                   omega
      refine AW.exit ?_
      refine hK2 _ _ ?_; try clear hK2 K2
      refine AW.regl false [4] (by rfl) fun K10 hK10 => ?_ -- region 7
      simp only [go_sem, Nat.reduceAdd, Nat.reduceEqDiff, Nat.reduceLeDiff, true_and, List.length_map, hen]
      refine hK10 _ _ ?_; try clear hK10 K10
      conv => enter [5]; simp only [setL_cons, setL_nil, List.set_cons_zero, List.set_cons_succ]
      refine AW.ret ⟨.inr rfl, _, rfl, by simp, ?_⟩ -- return 2
      refine frzI ?_
      rw [hix, hc, List.drop_length]
      rfl

set_option maxRecDepth 100000 in
theorem containsFunc64 {α : Type} (en : α → AV) (hen : ∀ a, aGet prog 128 (en a).cells = some (en a)) (nl : Bool) (l : List α) (hl : l.length ≤ maxLen) (g : FuncId) (hg : Enters prog g) (caps : List AV) (p : α → Bool) (σ : Sto) (hp : ∀ a ∈ l, APureOn prog Γ g (en a :: caps) σ (.val (.bool (p a)))) : APureOn prog Γ 64 [rowAV 6 nl (l.map en), .fn g caps] σ (.val (.bool (l.any p))) := by
  refine APureOn.of func64 rfl fun τ => ?_
  simp only [ntmps64, List.length_cons, List.length_nil, Nat.reduceAdd, Nat.reduceSub, List.replicate_succ, List.replicate_zero, List.cons_append, List.nil_append]
  have hi := (indexFunc94 en hen nl l hl g hg caps p σ hp).more τ
  generalize σ ++ τ = σ at hi ⊢
  refine AW.regl false [4] (by rfl) fun K1 hK1 => ?_ -- region 0
  simp only [go_sem, Nat.reduceAdd, Nat.reduceEqDiff, Nat.reduceLeDiff, true_and]
  refine hK1 _ _ ?_; try clear hK1 K1
  conv => enter [5]; simp only [setL_cons, setL_nil, List.set_cons_zero, List.set_cons_succ]
  refine AW.regl false [4] (by rfl) fun K2 hK2 => ?_ -- region 1
  simp only [go_sem, Nat.reduceAdd, Nat.reduceEqDiff, Nat.reduceLeDiff, true_and]
  refine sC.of en94 (hi).here (by rfl) ?_
  simp only [go_sem, Nat.reduceAdd, Nat.reduceEqDiff, Nat.reduceLeDiff, true_and]
  refine hK2 _ _ ?_; try clear hK2 K2
  conv => enter [5]; simp only [setL_cons, setL_nil, List.set_cons_zero, List.set_cons_succ]
  refine AW.ret ⟨.inr rfl, _, rfl, by simp, ?_⟩ -- return 1
  refine frzB ?_
  exact idxFrom_nonneg p l 0

set_option maxRecDepth 100000 in
theorem nright_calls (hΓ : Words Γ) (n : NodeM) (hok : n.ok) : APure prog Γ 36 [NodeM.enc n] (.val (.bool n.right)) := by
  refine APure.of func36 rfl fun σ => ?_
  simp only [ntmps36, List.length_cons, List.length_nil, Nat.reduceAdd, Nat.reduceSub, List.replicate_succ, List.replicate_zero, List.cons_append, List.nil_append]
  have hn0 : n.name.size ≤ 1000000000 := by have := hok.1; omega
  have hl0 : n.eqs.length ≤ maxLen := by rw [maxLen_eq]; have := hok.2.2.2.2.1; omega
  refine AW.regl false [1, 2] (by rfl) fun K1 hK1 => ?_ -- region 0
  simp only [go_sem, Nat.reduceAdd, Nat.reduceEqDiff, Nat.reduceLeDiff, true_and, ProgM.enc, NodeM.enc, EqM.enc, VarM.enc, enc_one, enc_len, enc_get43, enc_get47, eqc_get81, eqc_get128, List.length_map, List.length_cons, List.all_cons, one_row, len_row, ba_beqL, List.drop_succ_cons, List.drop_zero]
  refine hK1 _ _ ?_; try clear hK1 K1
  conv => enter [5]; simp only [setL_cons, setL_nil, List.set_cons_zero, List.set_cons_succ]
  refine AW.regcuts fun K2 hK2 => ?_ -- region 1
  refine AOps.cut false 8 11 (.val (.bool ((varsR n.ins) && (varsR n.outs)))) (by rfl) ?_ ?_
  · skip
    cases h6 : ((varsR n.ins))
    · skip
      simp only [go_sem, Nat.reduceAdd, Nat.reduceEqDiff, Nat.reduceLeDiff, true_and, ProgM.enc, NodeM.enc, EqM.enc, VarM.enc, enc_one, enc_len, enc_get43, enc_get47, eqc_get81, eqc_get128, List.length_map, List.length_cons, List.all_cons, one_row, len_row, ba_beqL, List.drop_succ_cons, List.drop_zero, List.take_succ_cons, List.take_zero, h6]
      refine sC.of en63 ((vars_calls hΓ n.nlI n.ins (by first | exact hok.2.1 | exact hok.2.2.1 | exact hok.2.2.2.1)).on _).here (by rfl) ?_
      simp only [go_sem, Nat.reduceAdd, Nat.reduceEqDiff, Nat.reduceLeDiff, true_and, ProgM.enc, NodeM.enc, EqM.enc, VarM.enc, enc_one, enc_len, enc_get43, enc_get47, eqc_get81, eqc_get128, List.length_map, List.length_cons, List.all_cons, one_row, len_row, ba_beqL, List.drop_succ_cons, List.drop_zero, List.take_succ_cons, List.take_zero, h6]
      try simp [upd_at, h6, ProgM.enc, NodeM.enc, EqM.enc, VarM.enc, enc_one, enc_len, enc_get43, enc_get47, eqc_get81, eqc_get128, List.length_map, List.length_cons, List.all_cons, one_row, len_row, ba_beqL, List.drop_succ_cons, List.drop_zero]
    · skip
      simp only [go_sem, Nat.reduceAdd, Nat.reduceEqDiff, Nat.reduceLeDiff, true_and, ProgM.enc, NodeM.enc, EqM.enc, VarM.enc, enc_one, enc_len, enc_get43, enc_get47, eqc_get81, eqc_get128, List.length_map, List.length_cons, List.all_cons, one_row, len_row, ba_beqL, List.drop_succ_cons, List.drop_zero, List.take_succ_cons, List.take_zero, h6]
      refine sC.of en63 ((vars_calls hΓ n.nlI n.ins (by first | exact hok.2.1 | exact hok.2.2.1 | exact hok.2.2.2.1)).on _).here (by rfl) ?_
      simp only [go_sem, Nat.reduceAdd, Nat.reduceEqDiff, Nat.reduceLeDiff, true_and, ProgM.enc, NodeM.enc, EqM.enc, VarM.enc, enc_one, enc_len, enc_get43, enc_get47, eqc_get81, eqc_get128, List.length_map, List.length_cons, List.all_cons, one_row, len_row, ba_beqL, List.drop_succ_cons, List.drop_zero, List.take_succ_cons, List.take_zero, h6]
      refine sC.of en63 ((vars_calls hΓ n.nlO n.outs (by first | exact hok.2.1 | exact hok.2.2.1 | exact hok.2.2.2.1)).on _).here (by rfl) ?_
      simp only [go_sem, Nat.reduceAdd, Nat.reduceEqDiff, Nat.reduceLeDiff, true_and, ProgM.enc, NodeM.enc, EqM.enc, VarM.enc, enc_one, enc_len, enc_get43, enc_get47, eqc_get81, eqc_get128, List.length_map, List.length_cons, List.all_cons, one_row, len_row, ba_beqL, List.drop_succ_cons, List.drop_zero, List.take_succ_cons, List.take_zero, h6]
      try simp [upd_at, h6, ProgM.enc, NodeM.enc, EqM.enc, VarM.enc, enc_one, enc_len, enc_get43, enc_get47, eqc_get81, eqc_get128, List.length_map, List.length_cons, List.all_cons, one_row, len_row, ba_beqL, List.drop_succ_cons, List.drop_zero]
  simp only [List.drop_succ_cons, List.drop_zero, List.set_cons_zero, List.set_cons_succ]
  refine AOps.cut false 6 17 (.val (.bool (((varsR n.ins) && (varsR n.outs)) && (decide (((n.outs.length : Nat) : Int) ≥ 1))))) (by rfl) ?_ ?_
  · skip
    cases h11 : (((varsR n.ins) && (varsR n.outs)))
    · skip
      simp only [go_sem, Nat.reduceAdd, Nat.reduceEqDiff, Nat.reduceLeDiff, true_and, ProgM.enc, NodeM.enc, EqM.enc, VarM.enc, enc_one, enc_len, enc_get43, enc_get47, eqc_get81, eqc_get128, List.length_map, List.length_cons, List.all_cons, one_row, len_row, ba_beqL, List.drop_succ_cons, List.drop_zero, List.take_succ_cons, List.take_zero, h11]
      try simp [upd_at, h11, ProgM.enc, NodeM.enc, EqM.enc, VarM.enc, enc_one, enc_len, enc_get43, enc_get47, eqc_get81, eqc_get128, List.length_map, List.length_cons, List.all_cons, one_row, len_row, ba_beqL, List.drop_succ_cons, List.drop_zero]
    · skip
      simp only [go_sem, Nat.reduceAdd, Nat.reduceEqDiff, Nat.reduceLeDiff, true_and, ProgM.enc, NodeM.enc, EqM.enc, VarM.enc, enc_one, enc_len, enc_get43, enc_get47, eqc_get81, eqc_get128, List.length_map, List.length_cons, List.all_cons, one_row, len_row, ba_beqL, List.drop_succ_cons, List.drop_zero, List.take_succ_cons, List.take_zero, h11]
      try simp [upd_at, h11, ProgM.enc, NodeM.enc, EqM.enc, VarM.enc, enc_one, enc_len, enc_get43, enc_get47, eqc_get81, eqc_get128, List.length_map, List.length_cons, List.all_cons, one_row, len_row, ba_beqL, List.drop_succ_cons, List.drop_zero]
  simp only [List.drop_succ_cons, List.drop_zero, List.set_cons_zero, List.set_cons_succ]
  refine AOps.cut false 6 3 (.val (.bool ((((varsR n.ins) && (varsR n.outs)) && (decide (((n.outs.length : Nat) : Int) ≥ 1))) && (varsR n.locals)))) (by rfl) ?_ ?_
  · skip
    cases h17 : ((((varsR n.ins) && (varsR n.outs)) && (decide (((n.outs.length : Nat) : Int) ≥ 1))))
    · skip
      simp only [go_sem, Nat.reduceAdd, Nat.reduceEqDiff, Nat.reduceLeDiff, true_and, ProgM.enc, NodeM.enc, EqM.enc, VarM.enc, enc_one, enc_len, enc_get43, enc_get47, eqc_get81, eqc_get128, List.length_map, List.length_cons, List.all_cons, one_row, len_row, ba_beqL, List.drop_succ_cons, List.drop_zero, List.take_succ_cons, List.take_zero, h17]
      try simp [upd_at, h17, ProgM.enc, NodeM.enc, EqM.enc, VarM.enc, enc_one, enc_len, enc_get43, enc_get47, eqc_get81, eqc_get128, List.length_map, List.length_cons, List.all_cons, one_row, len_row, ba_beqL, List.drop_succ_cons, List.drop_zero]
    · skip
      simp only [go_sem, Nat.reduceAdd, Nat.reduceEqDiff, Nat.reduceLeDiff, true_and, ProgM.enc, NodeM.enc, EqM.enc, VarM.enc, enc_one, enc_len, enc_get43, enc_get47, eqc_get81, eqc_get128, List.length_map, List.length_cons, List.all_cons, one_row, len_row, ba_beqL, List.drop_succ_cons, List.drop_zero, List.take_succ_cons, List.take_zero, h17]
      refine sC.of en63 ((vars_calls hΓ n.nlL n.locals (by first | exact hok.2.1 | exact hok.2.2.1 | exact hok.2.2.2.1)).on _).here (by rfl) ?_
      simp only [go_sem, Nat.reduceAdd, Nat.reduceEqDiff, Nat.reduceLeDiff, true_and, ProgM.enc, NodeM.enc, EqM.enc, VarM.enc, enc_one, enc_len, enc_get43, enc_get47, eqc_get81, eqc_get128, List.length_map, List.length_cons, List.all_cons, one_row, len_row, ba_beqL, List.drop_succ_cons, List.drop_zero, List.take_succ_cons, List.take_zero, h17]
      try simp [upd_at, h17, ProgM.enc, NodeM.enc, EqM.enc, VarM.enc, enc_one, enc_len, enc_get43, enc_get47, eqc_get81, eqc_get128, List.length_map, List.length_cons, List.all_cons, one_row, len_row, ba_beqL, List.drop_succ_cons, List.drop_zero]
  simp only [List.drop_succ_cons, List.drop_zero, List.set_cons_zero, List.set_cons_succ]
  refine AOps.nil (hK2 _ _ ?_); try clear hK2 K2
  refine AW.regcuts fun K3 hK3 => ?_ -- region 2
  refine AOps.cut false 6 28 (.val (.bool ((nameM n.name) && ((((varsR n.ins) && (varsR n.outs)) && (decide (((n.outs.length : Nat) : Int) ≥ 1))) && (varsR n.locals))))) (by rfl) ?_ ?_
  · skip
    cases h25 : ((nameM n.name))
    · skip
      simp only [go_sem, Nat.reduceAdd, Nat.reduceEqDiff, Nat.reduceLeDiff, true_and, ProgM.enc, NodeM.enc, EqM.enc, VarM.enc, enc_one, enc_len, enc_get43, enc_get47, eqc_get81, eqc_get128, List.length_map, List.length_cons, List.all_cons, one_row, len_row, ba_beqL, List.drop_succ_cons, List.drop_zero, List.take_succ_cons, List.take_zero, h25]
      refine sC.of en43 ((name_calls hΓ n.name (by first | assumption | omega)).on _).here (by rfl) ?_
      simp only [go_sem, Nat.reduceAdd, Nat.reduceEqDiff, Nat.reduceLeDiff, true_and, ProgM.enc, NodeM.enc, EqM.enc, VarM.enc, enc_one, enc_len, enc_get43, enc_get47, eqc_get81, eqc_get128, List.length_map, List.length_cons, List.all_cons, one_row, len_row, ba_beqL, List.drop_succ_cons, List.drop_zero, List.take_succ_cons, List.take_zero, h25]
      try simp [upd_at, h25, ProgM.enc, NodeM.enc, EqM.enc, VarM.enc, enc_one, enc_len, enc_get43, enc_get47, eqc_get81, eqc_get128, List.length_map, List.length_cons, List.all_cons, one_row, len_row, ba_beqL, List.drop_succ_cons, List.drop_zero]
    · skip
      simp only [go_sem, Nat.reduceAdd, Nat.reduceEqDiff, Nat.reduceLeDiff, true_and, ProgM.enc, NodeM.enc, EqM.enc, VarM.enc, enc_one, enc_len, enc_get43, enc_get47, eqc_get81, eqc_get128, List.length_map, List.length_cons, List.all_cons, one_row, len_row, ba_beqL, List.drop_succ_cons, List.drop_zero, List.take_succ_cons, List.take_zero, h25]
      refine sC.of en43 ((name_calls hΓ n.name (by first | assumption | omega)).on _).here (by rfl) ?_
      simp only [go_sem, Nat.reduceAdd, Nat.reduceEqDiff, Nat.reduceLeDiff, true_and, ProgM.enc, NodeM.enc, EqM.enc, VarM.enc, enc_one, enc_len, enc_get43, enc_get47, eqc_get81, eqc_get128, List.length_map, List.length_cons, List.all_cons, one_row, len_row, ba_beqL, List.drop_succ_cons, List.drop_zero, List.take_succ_cons, List.take_zero, h25]
      try simp [upd_at, h25, ProgM.enc, NodeM.enc, EqM.enc, VarM.enc, enc_one, enc_len, enc_get43, enc_get47, eqc_get81, eqc_get128, List.length_map, List.length_cons, List.all_cons, one_row, len_row, ba_beqL, List.drop_succ_cons, List.drop_zero]
  simp only [List.drop_succ_cons, List.drop_zero, List.set_cons_zero, List.set_cons_succ]
  refine AOps.cut false 6 34 (.val (.bool (((nameM n.name) && ((((varsR n.ins) && (varsR n.outs)) && (decide (((n.outs.length : Nat) : Int) ≥ 1))) && (varsR n.locals))) && (decide (((n.eqs.length : Nat) : Int) ≤ 1000))))) (by rfl) ?_ ?_
  · skip
    cases h28 : (((nameM n.name) && ((((varsR n.ins) && (varsR n.outs)) && (decide (((n.outs.length : Nat) : Int) ≥ 1))) && (varsR n.locals))))
    · skip
      simp only [go_sem, Nat.reduceAdd, Nat.reduceEqDiff, Nat.reduceLeDiff, true_and, ProgM.enc, NodeM.enc, EqM.enc, VarM.enc, enc_one, enc_len, enc_get43, enc_get47, eqc_get81, eqc_get128, List.length_map, List.length_cons, List.all_cons, one_row, len_row, ba_beqL, List.drop_succ_cons, List.drop_zero, List.take_succ_cons, List.take_zero, h28]
      try simp [upd_at, h28, ProgM.enc, NodeM.enc, EqM.enc, VarM.enc, enc_one, enc_len, enc_get43, enc_get47, eqc_get81, eqc_get128, List.length_map, List.length_cons, List.all_cons, one_row, len_row, ba_beqL, List.drop_succ_cons, List.drop_zero]
    · skip
      simp only [go_sem, Nat.reduceAdd, Nat.reduceEqDiff, Nat.reduceLeDiff, true_and, ProgM.enc, NodeM.enc, EqM.enc, VarM.enc, enc_one, enc_len, enc_get43, enc_get47, eqc_get81, eqc_get128, List.length_map, List.length_cons, List.all_cons, one_row, len_row, ba_beqL, List.drop_succ_cons, List.drop_zero, List.take_succ_cons, List.take_zero, h28]
      try simp [upd_at, h28, ProgM.enc, NodeM.enc, EqM.enc, VarM.enc, enc_one, enc_len, enc_get43, enc_get47, eqc_get81, eqc_get128, List.length_map, List.length_cons, List.all_cons, one_row, len_row, ba_beqL, List.drop_succ_cons, List.drop_zero]
  simp only [List.drop_succ_cons, List.drop_zero, List.set_cons_zero, List.set_cons_succ]
  refine AOps.cut false 7 2 (.val (.bool ((((nameM n.name) && ((((varsR n.ins) && (varsR n.outs)) && (decide (((n.outs.length : Nat) : Int) ≥ 1))) && (varsR n.locals))) && (decide (((n.eqs.length : Nat) : Int) ≤ 1000))) && !((n.eqs.any fun q => !q.right))))) (by rfl) ?_ ?_
  · skip
    cases h34 : ((((nameM n.name) && ((((varsR n.ins) && (varsR n.outs)) && (decide (((n.outs.length : Nat) : Int) ≥ 1))) && (varsR n.locals))) && (decide (((n.eqs.length : Nat) : Int) ≤ 1000))))
    · skip
      simp only [go_sem, Nat.reduceAdd, Nat.reduceEqDiff, Nat.reduceLeDiff, true_and, ProgM.enc, NodeM.enc, EqM.enc, VarM.enc, enc_one, enc_len, enc_get43, enc_get47, eqc_get81, eqc_get128, List.length_map, List.length_cons, List.all_cons, one_row, len_row, ba_beqL, List.drop_succ_cons, List.drop_zero, List.take_succ_cons, List.take_zero, h34]
      try simp [upd_at, h34, ProgM.enc, NodeM.enc, EqM.enc, VarM.enc, enc_one, enc_len, enc_get43, enc_get47, eqc_get81, eqc_get128, List.length_map, List.length_cons, List.all_cons, one_row, len_row, ba_beqL, List.drop_succ_cons, List.drop_zero]
    · skip
      simp only [go_sem, Nat.reduceAdd, Nat.reduceEqDiff, Nat.reduceLeDiff, true_and, ProgM.enc, NodeM.enc, EqM.enc, VarM.enc, enc_one, enc_len, enc_get43, enc_get47, eqc_get81, eqc_get128, List.length_map, List.length_cons, List.all_cons, one_row, len_row, ba_beqL, List.drop_succ_cons, List.drop_zero, List.take_succ_cons, List.take_zero, h34]
      refine sC.of en64 ((containsFunc64 EqM.enc eq_get128 n.nlE n.eqs hl0 65 en65 [] (fun q => !q.right) _ (fun q hq => (eqwrong_calls hΓ q (hok.2.2.2.2.2 q hq)).on _))).here (by rfl) ?_
      simp only [go_sem, Nat.reduceAdd, Nat.reduceEqDiff, Nat.reduceLeDiff, true_and, ProgM.enc, NodeM.enc, EqM.enc, VarM.enc, enc_one, enc_len, enc_get43, enc_get47, eqc_get81, eqc_get128, List.length_map, List.length_cons, List.all_cons, one_row, len_row, ba_beqL, List.drop_succ_cons, List.drop_zero, List.take_succ_cons, List.take_zero, h34]
      try simp [upd_at, h34, ProgM.enc, NodeM.enc, EqM.enc, VarM.enc, enc_one, enc_len, enc_get43, enc_get47, eqc_get81, eqc_get128, List.length_map, List.length_cons, List.all_cons, one_row, len_row, ba_beqL, List.drop_succ_cons, List.drop_zero]
  simp only [List.drop_succ_cons, List.drop_zero, List.set_cons_zero, List.set_cons_succ]
  refine AOps.nil (hK3 _ _ ?_); try clear hK3 K3
  refine AW.ret ⟨.inr rfl, _, rfl, by simp, ?_⟩ -- return 1
  refine frzB ?_
  rfl

set_option maxRecDepth 100000 in
theorem nwrong_calls (hΓ : Words Γ) (n : NodeM) (hok : n.ok) : APure prog Γ 62 [NodeM.enc n] (.val (.bool !n.right)) := by
  refine APure.of func62 rfl fun σ => ?_
  simp only [ntmps62, List.length_cons, List.length_nil, Nat.reduceAdd, Nat.reduceSub, List.replicate_succ, List.replicate_zero, List.cons_append, List.nil_append]
  refine AW.regl false [1, 2] (by rfl) fun K1 hK1 => ?_ -- region 0
  simp only [go_sem, Nat.reduceAdd, Nat.reduceEqDiff, Nat.reduceLeDiff, true_and, ProgM.enc, NodeM.enc, EqM.enc, VarM.enc, enc_one, enc_len, enc_get43, enc_get47, eqc_get81, eqc_get128, List.length_map, List.length_cons, List.all_cons, one_row, len_row, ba_beqL]
  refine hK1 _ _ ?_; try clear hK1 K1
  conv => enter [5]; simp only [setL_cons, setL_nil, List.set_cons_zero, List.set_cons_succ]
  refine AW.regl false [2] (by rfl) fun K2 hK2 => ?_ -- region 1
  simp only [go_sem, Nat.reduceAdd, Nat.reduceEqDiff, Nat.reduceLeDiff, true_and, ProgM.enc, NodeM.enc, EqM.enc, VarM.enc, enc_one, enc_len, enc_get43, enc_get47, eqc_get81, eqc_get128, List.length_map, List.length_cons, List.all_cons, one_row, len_row, ba_beqL]
  refine sC.of en36 ((nright_calls hΓ n hok).on _).here (by rfl) ?_
  simp only [go_sem, Nat.reduceAdd, Nat.reduceEqDiff, Nat.reduceLeDiff, true_and, ProgM.enc, NodeM.enc, EqM.enc, VarM.enc, enc_one, enc_len, enc_get43, enc_get47, eqc_get81, eqc_get128, List.length_map, List.length_cons, List.all_cons, one_row, len_row, ba_beqL]
  refine hK2 _ _ ?_; try clear hK2 K2
  conv => enter [5]; simp only [setL_cons, setL_nil, List.set_cons_zero, List.set_cons_succ]
  refine AW.ret ⟨.inr rfl, _, rfl, by simp, ?_⟩ -- return 1
  refine frzB ?_
  rfl

set_option maxRecDepth 100000 in
theorem indexFunc91 {α : Type} (en : α → AV) (hen : ∀ a, aGet prog 97 (en a).cells = some (en a)) (nl : Bool) (l : List α) (hl : l.length ≤ maxLen) (g : FuncId) (hg : Enters prog g) (caps : List AV) (p : α → Bool) (σ : Sto) (hp : ∀ a ∈ l, APureOn prog Γ g (en a :: caps) σ (.val (.bool (p a)))) : APureOn prog Γ 91 [rowAV 5 nl (l.map en), .fn g caps] σ (.val (.int .i64 (idxFrom p 0 l))) := by
  refine APureOn.of func91 rfl fun τ => ?_
  simp only [ntmps91, List.length_cons, List.length_nil, Nat.reduceAdd, Nat.reduceSub, List.replicate_succ, List.replicate_zero, List.cons_append, List.nil_append]
  have hp' : ∀ (i : Nat) (h : i < l.length), APureOn prog Γ g (en l[i] :: caps) (σ ++ τ) (.val (.bool (p l[i]))) := fun i h => (hp _ (List.getElem_mem h)).more τ
  generalize σ ++ τ = σ at hp' ⊢
  refine AW.regl false [4] (by rfl) fun K1 hK1 => ?_ -- region 0
  simp only [go_sem, Nat.reduceAdd, Nat.reduceEqDiff, Nat.reduceLeDiff, true_and, List.length_map, hen]
  refine hK1 _ _ ?_; try clear hK1 K1
  conv => enter [5]; simp only [setL_cons, setL_nil, List.set_cons_zero, List.set_cons_succ]
  refine AW.seq_k fun K2 hK2 => ?_
  refine AW.regl false [7, 8] (by rfl) fun K3 hK3 => ?_ -- region 1
  simp only [go_sem, Nat.reduceAdd, Nat.reduceEqDiff, Nat.reduceLeDiff, true_and, List.length_map, hen]
  refine hK3 _ _ ?_; try clear hK3 K3
  conv => enter [5]; simp only [setL_cons, setL_nil, List.set_cons_zero, List.set_cons_succ]
  refine AW.block ?_
  refine AW.loop_wk (α := Nat) (fun i => [(rowAV 5 nl (l.map en)), (.fn g caps), .any, .any, .any, .any, .any, (.val (.int .i64 (l.length : Nat))), (.val (.int .i64 (i : Nat))), .any, .any, .any, .any, .any, .any, .any, .any, .any, .any]) (fun i => σ) (fun i => l.length - i) (fun i => i ≤ l.length ∧ idxFrom p 0 l = idxFrom p i (l.drop i)) 0 ?_ ?_
  · exact ⟨⟨Nat.zero_le _, rfl⟩, by simp [Wk], rfl⟩
  · rintro i ⟨hi, hix⟩
    refine AW.regl false [9] (by rfl) fun K4 hK4 => ?_ -- region 2
    simp only [go_sem, Nat.reduceAdd, Nat.reduceEqDiff, Nat.reduceLeDiff, true_and, List.length_map, hen]
    refine hK4 _ _ ?_; try clear hK4 K4
    conv => enter [5]; simp only [setL_cons, setL_nil, List.set_cons_zero, List.set_cons_succ]
    refine AW.seq_k fun K5 hK5 => ?_
    refine AW.cond rfl (fun hc9 => ?_) (fun hc9 => ?_)
    · skip
      have hc9 : i < l.length := by simpa using hc9
      have hx : (l.map en)[i]? = some (en l[i]) := by simp [hc9]
      rw [idxFrom_drop p l i hc9] at hix
      refine AW.skip ?_
      refine hK5 _ _ ?_; try clear hK5 K5
      refine AW.seq_k fun K6 hK6 => ?_
      refine AW.block ?_
      refine AW.regl false [5] (by rfl) fun K7 hK7 => ?_ -- region 3
      simp only [go_sem, Nat.reduceAdd, Nat.reduceEqDiff, Nat.reduceLeDiff, true_and, List.length_map, hen]
      refine hK7 _ _ ?_; try clear hK7 K7
      conv => enter [5]; simp only [setL_cons, setL_nil, List.set_cons_zero, List.set_cons_succ]
      refine AW.regl false [16] (by rfl) fun K8 hK8 => ?_ -- region 4
      simp only [go_sem, Nat.reduceAdd, Nat.reduceEqDiff, Nat.reduceLeDiff, true_and, List.length_map, hen, at_row hx]
      refine sC.of hg (hp' i hc9).here (by rfl) ?_
      simp only [go_sem, Nat.reduceAdd, Nat.reduceEqDiff, Nat.reduceLeDiff, true_and, List.length_map, hen, at_row hx]
      refine hK8 _ _ ?_; try clear hK8 K8
      conv => enter [5]; simp only [setL_cons, setL_nil, List.set_cons_zero, List.set_cons_succ]
      refine AW.cond rfl (fun hc16 => ?_) (fun hc16 => ?_)
      · skip
        rw [if_pos hc16] at hix
        refine AW.regl false [4] (by rfl) fun K9 hK9 => ?_ -- region 5
        simp only [go_sem, Nat.reduceAdd, Nat.reduceEqDiff, Nat.reduceLeDiff, true_and, List.length_map, hen]
        refine hK9 _ _ ?_; try clear hK9 K9
        conv => enter [5]; simp only [setL_cons, setL_nil, List.set_cons_zero, List.set_cons_succ]
        refine AW.ret ⟨.inr rfl, _, rfl, by simp, ?_⟩ -- return 1
        refine frzI ?_
        exact hix.symm
      · skip
        rw [if_neg (ne_true_of_eq_false hc16)] at hix
        refine AW.skip ?_
        refine hK6 _ _ ?_; try clear hK6 K6
        refine AW.lastl false [8] (by rfl) fun K hK => ?_ -- region 6
        simp only [go_sem, Nat.reduceAdd, Nat.reduceEqDiff, Nat.reduceLeDiff, true_and, List.length_map, hen]
        refine hK _ _ fun env' hw => ?_
        simp only [setL_cons, setL_nil, List.set_cons_zero, List.set_cons_succ] at hw
        refine ⟨i + 1, by omega, ⟨by omega, hix⟩, ?_, rfl⟩
        refine hw.trans ?_
        simp [Wk, wrap_succ hc9 hl]
    · skip
      have hc : i = l.length := by have : ¬ i < l.length := by simpa using hc9
                                   omega
      refine AW.exit ?_
      refine hK2 _ _ ?_; try clear hK2 K2
      refine AW.regl false [4] (by rfl) fun K10 hK10 => ?_ -- region 7
      simp only [go_sem, Nat.reduceAdd, Nat.reduceEqDiff, Nat.reduceLeDiff, true_and, List.length_map, hen]
      refine hK10 _ _ ?_; try clear hK10 K10
      conv => enter [5]; simp only [setL_cons, setL_nil, List.set_cons_zero, List.set_cons_succ]
      refine AW.ret ⟨.inr rfl, _, rfl, by simp, ?_⟩ -- return 2
      refine frzI ?_
      rw [hix, hc, List.drop_length]
      rfl

set_option maxRecDepth 100000 in
theorem containsFunc61 {α : Type} (en : α → AV) (hen : ∀ a, aGet prog 97 (en a).cells = some (en a)) (nl : Bool) (l : List α) (hl : l.length ≤ maxLen) (g : FuncId) (hg : Enters prog g) (caps : List AV) (p : α → Bool) (σ : Sto) (hp : ∀ a ∈ l, APureOn prog Γ g (en a :: caps) σ (.val (.bool (p a)))) : APureOn prog Γ 61 [rowAV 5 nl (l.map en), .fn g caps] σ (.val (.bool (l.any p))) := by
  refine APureOn.of func61 rfl fun τ => ?_
  simp only [ntmps61, List.length_cons, List.length_nil, Nat.reduceAdd, Nat.reduceSub, List.replicate_succ, List.replicate_zero, List.cons_append, List.nil_append]
  have hi := (indexFunc91 en hen nl l hl g hg caps p σ hp).more τ
  generalize σ ++ τ = σ at hi ⊢
  refine AW.regl false [4] (by rfl) fun K1 hK1 => ?_ -- region 0
  simp only [go_sem, Nat.reduceAdd, Nat.reduceEqDiff, Nat.reduceLeDiff, true_and]
  refine hK1 _ _ ?_; try clear hK1 K1
  conv => enter [5]; simp only [setL_cons, setL_nil, List.set_cons_zero, List.set_cons_succ]
  refine AW.regl false [4] (by rfl) fun K2 hK2 => ?_ -- region 1
  simp only [go_sem, Nat.reduceAdd, Nat.reduceEqDiff, Nat.reduceLeDiff, true_and]
  refine sC.of en91 (hi).here (by rfl) ?_
  simp only [go_sem, Nat.reduceAdd, Nat.reduceEqDiff, Nat.reduceLeDiff, true_and]
  refine hK2 _ _ ?_; try clear hK2 K2
  conv => enter [5]; simp only [setL_cons, setL_nil, List.set_cons_zero, List.set_cons_succ]
  refine AW.ret ⟨.inr rfl, _, rfl, by simp, ?_⟩ -- return 1
  refine frzB ?_
  exact idxFrom_nonneg p l 0

set_option maxRecDepth 100000 in
theorem pright_calls (hΓ : Words Γ) (p : ProgM) (hok : p.ok) : APure prog Γ 34 [ProgM.enc p] (.val (.bool p.right)) := by
  refine APure.of func34 rfl fun σ => ?_
  simp only [ntmps34, List.length_cons, List.length_nil, Nat.reduceAdd, Nat.reduceSub, List.replicate_succ, List.replicate_zero, List.cons_append, List.nil_append]
  have hl0 : p.nodes.length ≤ maxLen := by rw [maxLen_eq]; have := hok.1; omega
  refine AW.regl false [1, 2] (by rfl) fun K1 hK1 => ?_ -- region 0
  simp only [go_sem, Nat.reduceAdd, Nat.reduceEqDiff, Nat.reduceLeDiff, true_and, ProgM.enc, NodeM.enc, EqM.enc, VarM.enc, enc_one, enc_len, enc_get43, enc_get47, eqc_get81, eqc_get128, List.length_map, List.length_cons, List.all_cons, one_row, len_row, ba_beqL]
  refine hK1 _ _ ?_; try clear hK1 K1
  conv => enter [5]; simp only [setL_cons, setL_nil, List.set_cons_zero, List.set_cons_succ]
  refine AW.regtf false 2 (.val (.bool ((decide (((p.nodes.length : Nat) : Int) ≤ 1000)) && !((p.nodes.any fun n => !n.right))))) (by rfl) ?_ ?_ -- region 1
  · skip
    cases h6 : ((decide (((p.nodes.length : Nat) : Int) ≤ 1000)))
    · skip
      simp only [go_sem, Nat.reduceAdd, Nat.reduceEqDiff, Nat.reduceLeDiff, true_and, ProgM.enc, NodeM.enc, EqM.enc, VarM.enc, enc_one, enc_len, enc_get43, enc_get47, eqc_get81, eqc_get128, List.length_map, List.length_cons, List.all_cons, one_row, len_row, ba_beqL, h6]
      try simp [upd_at, h6, ProgM.enc, NodeM.enc, EqM.enc, VarM.enc, enc_one, enc_len, enc_get43, enc_get47, eqc_get81, eqc_get128, List.length_map, List.length_cons, List.all_cons, one_row, len_row, ba_beqL]
    · skip
      simp only [go_sem, Nat.reduceAdd, Nat.reduceEqDiff, Nat.reduceLeDiff, true_and, ProgM.enc, NodeM.enc, EqM.enc, VarM.enc, enc_one, enc_len, enc_get43, enc_get47, eqc_get81, eqc_get128, List.length_map, List.length_cons, List.all_cons, one_row, len_row, ba_beqL, h6]
      refine sC.of en61 ((containsFunc61 NodeM.enc node_get97 p.nl p.nodes hl0 62 en62 [] (fun n => !n.right) _ (fun n hn => (nwrong_calls hΓ n (hok.2 n hn)).on _))).here (by rfl) ?_
      simp only [go_sem, Nat.reduceAdd, Nat.reduceEqDiff, Nat.reduceLeDiff, true_and, ProgM.enc, NodeM.enc, EqM.enc, VarM.enc, enc_one, enc_len, enc_get43, enc_get47, eqc_get81, eqc_get128, List.length_map, List.length_cons, List.all_cons, one_row, len_row, ba_beqL, h6]
      try simp [upd_at, h6, ProgM.enc, NodeM.enc, EqM.enc, VarM.enc, enc_one, enc_len, enc_get43, enc_get47, eqc_get81, eqc_get128, List.length_map, List.length_cons, List.all_cons, one_row, len_row, ba_beqL]
  conv => enter [5]; simp only [List.set_cons_zero, List.set_cons_succ]
  refine AW.ret ⟨.inr rfl, _, rfl, by simp, ?_⟩ -- return 1
  refine frzB ?_
  rfl

set_option maxRecDepth 100000 in
theorem ovars_calls (nl : Bool) (l : List VarM) (hl : varsOk l) : APure prog Γ 60 [rowAV 2 nl (l.map VarM.enc)] (rowAV 2 true (l.map VarM.enc)) := by
  refine APure.of func60 rfl fun σ => ?_
  simp only [ntmps60, List.length_cons, List.length_nil, Nat.reduceAdd, Nat.reduceSub, List.replicate_succ, List.replicate_zero, List.cons_append, List.nil_append]
  have hl0 : l.length ≤ maxLen := by rw [maxLen_eq]; have := hl.1; omega
  refine AW.regl false [2] (by rfl) fun K1 hK1 => ?_ -- region 0
  simp only [go_sem, Nat.reduceAdd, Nat.reduceEqDiff, Nat.reduceLeDiff, true_and, ProgM.enc, NodeM.enc, EqM.enc, VarM.enc, enc_one, enc_len, enc_get43, enc_get47, eqc_get81, eqc_get128, List.length_map, List.length_cons, List.all_cons, one_row, len_row, ba_beqL]
  refine hK1 _ _ ?_; try clear hK1 K1
  conv => enter [5]; simp only [setL_cons, setL_nil, List.set_cons_zero, List.set_cons_succ]
  refine AW.regl false [3] (by rfl) fun K2 hK2 => ?_ -- region 1
  simp only [go_sem, Nat.reduceAdd, Nat.reduceEqDiff, Nat.reduceLeDiff, true_and, ProgM.enc, NodeM.enc, EqM.enc, VarM.enc, enc_one, enc_len, enc_get43, enc_get47, eqc_get81, eqc_get128, List.length_map, List.length_cons, List.all_cons, one_row, len_row, ba_beqL]
  refine hK2 _ _ ?_; try clear hK2 K2
  conv => enter [5]; simp only [setL_cons, setL_nil, List.set_cons_zero, List.set_cons_succ]
  refine AW.cap 2 ?_
  try simp only [List.append_assoc, List.cons_append, List.nil_append]
  refine AW.ownT 3 σ.length rfl ((app_get0 _ _).trans rfl) (by decide) ?_
  try simp only [List.set_cons_zero, List.set_cons_succ]
  refine AW.seq_k fun K3 hK3 => ?_
  refine AW.regl false [4] (by rfl) fun K4 hK4 => ?_ -- region 2
  simp only [go_sem, Nat.reduceAdd, Nat.reduceEqDiff, Nat.reduceLeDiff, true_and, ProgM.enc, NodeM.enc, EqM.enc, VarM.enc, enc_one, enc_len, enc_get43, enc_get47, eqc_get81, eqc_get128, List.length_map, List.length_cons, List.all_cons, one_row, len_row, ba_beqL]
  refine hK4 _ _ ?_; try clear hK4 K4
  conv => enter [5]; simp only [setL_cons, setL_nil, List.set_cons_zero, List.set_cons_succ]
  refine AW.block ?_
  refine AW.loop_wk (α := Nat) (fun i => [(rowAV 2 nl (l.map VarM.enc)), .any, .any, (.slo true 2 ((l.take i).map VarM.enc) σ.length), (.val (.int .i64 ((i : Nat) : Int))), .any, .any, .any, .any, .any, .any, .any, .any, .any, .any, .any, .any, .any, .any, .any, .any, .any, .any, .any, .any, .any]) (fun i => σ ++ [.cap i 2]) (fun i => l.length - i) (fun i => i ≤ l.length) 0 ?_ ?_
  · exact ⟨Nat.zero_le _, by simp [Wk], rfl⟩
  · intro i hi
    refine AW.seq_k fun K5 hK5 => ?_
    refine AW.regl false [8] (by rfl) fun K6 hK6 => ?_ -- region 3
    simp only [go_sem, Nat.reduceAdd, Nat.reduceEqDiff, Nat.reduceLeDiff, true_and, ProgM.enc, NodeM.enc, EqM.enc, VarM.enc, enc_one, enc_len, enc_get43, enc_get47, eqc_get81, eqc_get128, List.length_map, List.length_cons, List.all_cons, one_row, len_row, ba_beqL]
    refine hK6 _ _ ?_; try clear hK6 K6
    conv => enter [5]; simp only [setL_cons, setL_nil, List.set_cons_zero, List.set_cons_succ]
    refine AW.cond rfl (fun hc8 => ?_) (fun hc8 => ?_)
    · skip
      have hi1 : i < l.length := by simpa using hc8
      have hx : (l.map VarM.enc)[i]? = some (VarM.enc (l[i])) := by rw [List.getElem?_map, List.getElem?_eq_getElem hi1]; rfl
      have hap := app_at (en := VarM.enc) hi1 (by have := hl.1; omega) true 2 24 (by decide)
      have htk : (l.take i).map VarM.enc ++ [.agg [str (l[i]).name, i64 (l[i]).type]] = (l.take (i + 1)).map VarM.enc := take_at VarM.enc hi1
      refine AW.skip ?_
      refine hK5 _ _ ?_; try clear hK5 K5
      refine AW.seq_k fun K7 hK7 => ?_
      refine AW.block ?_
      refine AW.lastml mixed false [3] 13 (by kernel_rfl) (by kernel_rfl) (by rfl) fun K hK => ?_ -- region 5
      simp only [go_sem, Nat.reduceAdd, Nat.reduceEqDiff, Nat.reduceLeDiff, true_and, ProgM.enc, NodeM.enc, EqM.enc, VarM.enc, enc_one, enc_len, enc_get43, enc_get47, eqc_get81, eqc_get128, List.length_map, List.length_cons, List.all_cons, one_row, len_row, ba_beqL, at_row hx, hap, row1_94 _ (.agg [str (l[i]).name, i64 (l[i]).type]) rfl rfl, htk]
      refine hK _ _ fun env' hw => ?_
      simp only [setL_cons, setL_nil, List.set_cons_zero, List.set_cons_succ, upd_none, upd_at] at hw
      refine hK7 _ _ (AW.weaken hw ?_); clear hw; try clear hK7 K7
      refine AW.lastl false [4] (by rfl) fun K hK => ?_ -- region 4
      simp only [go_sem, Nat.reduceAdd, Nat.reduceEqDiff, Nat.reduceLeDiff, true_and, ProgM.enc, NodeM.enc, EqM.enc, VarM.enc, enc_one, enc_len, enc_get43, enc_get47, eqc_get81, eqc_get128, List.length_map, List.length_cons, List.all_cons, one_row, len_row, ba_beqL]
      refine hK _ _ fun env' hw => ?_
      simp only [setL_cons, setL_nil, List.set_cons_zero, List.set_cons_succ] at hw
      refine ⟨i + 1, by omega, by omega, ?_, rfl⟩
      refine hw.trans ?_
      simp [Wk, wrap_succ hi1 hl0]
      try omega
    · skip
      have hi1 : i = l.length := by
        have : ¬ i < l.length := by simpa using hc8
        omega
      refine AW.exit ?_
      refine hK3 _ _ ?_; try clear hK3 K3
      refine AW.regl false [2] (by rfl) fun K8 hK8 => ?_ -- region 6
      simp only [go_sem, Nat.reduceAdd, Nat.reduceEqDiff, Nat.reduceLeDiff, true_and, ProgM.enc, NodeM.enc, EqM.enc, VarM.enc, enc_one, enc_len, enc_get43, enc_get47, eqc_get81, eqc_get128, List.length_map, List.length_cons, List.all_cons, one_row, len_row, ba_beqL]
      refine hK8 _ _ ?_; try clear hK8 K8
      conv => enter [5]; simp only [setL_cons, setL_nil, List.set_cons_zero, List.set_cons_succ]
      refine AW.ret ⟨.inr rfl, _, rfl, by simp, ?_⟩ -- return 1
      rw [hi1, List.take_length]
      exact frz_row var_bel (by omega) l

set_option maxRecDepth 100000 in
set_option maxHeartbeats 1000000 in
theorem oprog_calls (p : ProgM) (hpk : p.ok) : APure prog Γ 33 [p.enc] p.own.enc := by
  refine APure.of func33 rfl fun σ => ?_
  simp only [ntmps33, List.length_cons, List.length_nil, Nat.reduceAdd, Nat.reduceSub, List.replicate_succ, List.replicate_zero, List.cons_append, List.nil_append]
  have hl : p.nodes.length ≤ maxLen := by rw [maxLen_eq]; have := hpk.1; omega
  refine AW.regl false [1, 2] (by rfl) fun K1 hK1 => ?_ -- region 0
  simp only [go_sem, Nat.reduceAdd, Nat.reduceEqDiff, Nat.reduceLeDiff, true_and, ProgM.enc, NodeM.enc, EqM.enc, VarM.enc, enc_one, enc_len, enc_get43, enc_get47, eqc_get81, eqc_get128, List.length_map, List.length_cons, List.all_cons, one_row, len_row, ba_beqL, node_get84, srcS_row]
  refine hK1 _ _ ?_; try clear hK1 K1
  conv => enter [5]; simp only [setL_cons, setL_nil, List.set_cons_zero, List.set_cons_succ]
  refine AW.regl false [3] (by rfl) fun K2 hK2 => ?_ -- region 1
  simp only [go_sem, Nat.reduceAdd, Nat.reduceEqDiff, Nat.reduceLeDiff, true_and, ProgM.enc, NodeM.enc, EqM.enc, VarM.enc, enc_one, enc_len, enc_get43, enc_get47, eqc_get81, eqc_get128, List.length_map, List.length_cons, List.all_cons, one_row, len_row, ba_beqL, node_get84, srcS_row]
  refine hK2 _ _ ?_; try clear hK2 K2
  conv => enter [5]; simp only [setL_cons, setL_nil, List.set_cons_zero, List.set_cons_succ]
  refine AW.cap 5 ?_
  simp only [List.append_assoc, List.cons_append, List.nil_append]
  refine AW.own (σ.length + 2) 0 (σ.length + 3) ((app_get σ _ 2).trans rfl) rfl ((app_get σ _ 3).trans rfl) (by decide) ?_
  simp only [app_set, List.set_cons_zero, List.set_cons_succ]
  refine AW.seq_k fun K3 hK3 => ?_
  refine AW.regl false [4] (by rfl) fun K4 hK4 => ?_ -- region 2
  simp only [go_sem, Nat.reduceAdd, Nat.reduceEqDiff, Nat.reduceLeDiff, true_and, ProgM.enc, NodeM.enc, EqM.enc, VarM.enc, enc_one, enc_len, enc_get43, enc_get47, eqc_get81, eqc_get128, List.length_map, List.length_cons, List.all_cons, one_row, len_row, ba_beqL, node_get84, srcS_row]
  refine hK4 _ _ ?_; try clear hK4 K4
  conv => enter [5]; simp only [setL_cons, setL_nil, List.set_cons_zero, List.set_cons_succ]
  refine AW.block ?_
  refine AW.loop_dr (α := Nat) (fun i => [.any, (.ref σ.length 0), (.ref (σ.length + 1) 0), (.ref (σ.length + 2) 0), (.val (.int .i64 ((i : Nat) : Int))), .any, .any, .any, .any, .any, .any, .any, .any, .any, .any, .any, .any, .any, .any, .any, .any, .any, .any, .any, .any, .any, .any, .any, .any, .any, .any, .any, .any, .any, .any, .any, .any, .any, .any, .any, .any, .any, .any, .any, .any, .any, .any, .any, .any, .any, .any, .any, .any, .any, .any, .any, .any, .any, .any, .any, .any, .any, .any, .any, .any, .any, .any]) (fun i => σ ++ [.cells (ProgM.enc p).cells, .cells [.nilsl], .cells [.slo true 5 (((p.nodes.take i).map NodeM.own).map NodeM.enc) (σ.length + 3)], .cap i 5]) (fun i => p.nodes.length - i) (fun i => i ≤ p.nodes.length) 0 ?_ ?_ ?_
  · exact ⟨Nat.zero_le _, by simp [Wk], rfl⟩
  · refine fun y _ => ⟨by simp [belL, AV.bel], bel_app σ fun a ha => ?_⟩
    simp only [List.mem_cons, List.not_mem_nil, or_false] at ha
    simp only [List.length_append, List.length_cons, List.length_nil]
    rcases ha with rfl | rfl | rfl | rfl
    · exact prog_bel p _
    · rfl
    · simp only [AO.bel, belL, AV.bel, Bool.and_true, Bool.and_eq_true, decide_eq_true_eq]
      exact ⟨by omega, belL_map _ _ fun x _ => node_bel x _⟩
    · rfl
  · intro i hi
    refine AW.seq_k fun K5 hK5 => ?_
    refine AW.regl false [12] (by rfl) fun K6 hK6 => ?_ -- region 3
    simp only [go_sem, Nat.reduceAdd, Nat.reduceEqDiff, Nat.reduceLeDiff, true_and, ProgM.enc, NodeM.enc, EqM.enc, VarM.enc, enc_one, enc_len, enc_get43, enc_get47, eqc_get81, eqc_get128, List.length_map, List.length_cons, List.all_cons, one_row, len_row, ba_beqL, node_get84, srcS_row]
    refine hK6 _ _ ?_; try clear hK6 K6
    conv => enter [5]; simp only [setL_cons, setL_nil, List.set_cons_zero, List.set_cons_succ]
    refine AW.cond rfl (fun hc12 => ?_) (fun hc12 => ?_)
    · skip
      have hi1 : i < p.nodes.length := by simpa using hc12
      obtain ⟨m, hm⟩ : ∃ z, z = p.nodes[i] := ⟨_, rfl⟩
      have hx : (p.nodes.map NodeM.enc)[i]? = some (NodeM.enc m) := by rw [hm, List.getElem?_map, List.getElem?_eq_getElem hi1]; rfl
      have hok : m.ok := hpk.2 m (by rw [hm]; exact mem_at hi1)
      have hle : m.eqs.length ≤ maxLen := by rw [maxLen_eq]; have := hok.2.2.2.2.1; omega
      refine AW.skip ?_
      refine hK5 _ _ ?_; try clear hK5 K5
      refine AW.seq_k fun K7 hK7 => ?_
      refine AW.block ?_
      refine AW.regl false [5] (by rfl) fun K8 hK8 => ?_ -- region 5
      simp only [go_sem, Nat.reduceAdd, Nat.reduceEqDiff, Nat.reduceLeDiff, true_and, ProgM.enc, NodeM.enc, EqM.enc, VarM.enc, enc_one, enc_len, enc_get43, enc_get47, eqc_get81, eqc_get128, List.length_map, List.length_cons, List.all_cons, one_row, len_row, ba_beqL, node_get84, srcS_row, at_row hx]
      refine hK8 _ _ ?_; try clear hK8 K8
      conv => enter [5]; simp only [setL_cons, setL_nil, List.set_cons_zero, List.set_cons_succ, upd_none, upd_at]
      refine AW.regch mixed [σ ++ [.cells (ProgM.enc p).cells, .cells [.nilsl], .cells [.slo true 5 (((p.nodes.take i).map NodeM.own).map NodeM.enc) (σ.length + 3)], .cap i 5, .cells (NodeM.enc m).cells], σ ++ [.cells p.enc.cells, .cells [.nilsl], .cells [.slo true 5 (((p.nodes.take i).map NodeM.own).map NodeM.enc) (σ.length + 3)], .cap i 5, .cells m.enc.cells, .cells [str ⟨#[]⟩, .nilsl, .nilsl, .nilsl, .nilsl]], σ ++ [.cells p.enc.cells, .cells [.nilsl], .cells [.slo true 5 (((p.nodes.take i).map NodeM.own).map NodeM.enc) (σ.length + 3)], .cap i 5, .cells m.enc.cells, .cells [str m.name, rowAV 2 true (m.ins.map VarM.enc), rowAV 2 true (m.outs.map VarM.enc), rowAV 2 true (m.locals.map VarM.enc), .nilsl]]] [(0, 1, true), (0, 1, true), (0, 1, true), (0, 1, true), (0, 1, true), (0, 1, true), (0, 1, true), (0, 1, true), (0, 1, true), (0, 1, true), (0, 1, true), (0, 1, true), (0, 0, false), (0, 0, false)] [6] (by kernel_rfl) (by rfl) (by kernel_rfl) (by rfl) fun K9 hK9 => ?_ -- region 6
      simp only [go_sem, Nat.reduceAdd, Nat.reduceEqDiff, Nat.reduceLeDiff, true_and, ProgM.enc, NodeM.enc, EqM.enc, VarM.enc, enc_one, enc_len, enc_get43, enc_get47, eqc_get81, eqc_get128, List.length_map, List.length_cons, List.all_cons, one_row, len_row, ba_beqL, node_get84, srcS_row, List.append_assoc, List.cons_append, List.nil_append]
      refine xQ.of en60 (fun s _ => ((ovars_calls m.nlI m.ins (by first | exact hok.2.1 | exact hok.2.2.1 | exact hok.2.2.2.1))) s) (by rfl) ?_
      simp only [go_sem, Nat.reduceAdd, Nat.reduceEqDiff, Nat.reduceLeDiff, true_and, ProgM.enc, NodeM.enc, EqM.enc, VarM.enc, enc_one, enc_len, enc_get43, enc_get47, eqc_get81, eqc_get128, List.length_map, List.length_cons, List.all_cons, one_row, len_row, ba_beqL, node_get84, srcS_row, List.append_assoc, List.cons_append, List.nil_append]
      refine xQ.of en60 (fun s _ => ((ovars_calls m.nlO m.outs (by first | exact hok.2.1 | exact hok.2.2.1 | exact hok.2.2.2.1))) s) (by rfl) ?_
      simp only [go_sem, Nat.reduceAdd, Nat.reduceEqDiff, Nat.reduceLeDiff, true_and, ProgM.enc, NodeM.enc, EqM.enc, VarM.enc, enc_one, enc_len, enc_get43, enc_get47, eqc_get81, eqc_get128, List.length_map, List.length_cons, List.all_cons, one_row, len_row, ba_beqL, node_get84, srcS_row, List.append_assoc, List.cons_append, List.nil_append]
      refine xQ.of en60 (fun s _ => ((ovars_calls m.nlL m.locals (by first | exact hok.2.1 | exact hok.2.2.1 | exact hok.2.2.2.1))) s) (by rfl) ?_
      simp only [go_sem, Nat.reduceAdd, Nat.reduceEqDiff, Nat.reduceLeDiff, true_and, ProgM.enc, NodeM.enc, EqM.enc, VarM.enc, enc_one, enc_len, enc_get43, enc_get47, eqc_get81, eqc_get128, List.length_map, List.length_cons, List.all_cons, one_row, len_row, ba_beqL, node_get84, srcS_row, List.append_assoc, List.cons_append, List.nil_append]
      refine xE.of (by first | rfl | (simp; done) | (simp; repeat' constructor)) ?_
      simp only [go_sem, Nat.reduceAdd, Nat.reduceEqDiff, Nat.reduceLeDiff, true_and, ProgM.enc, NodeM.enc, EqM.enc, VarM.enc, enc_one, enc_len, enc_get43, enc_get47, eqc_get81, eqc_get128, List.length_map, List.length_cons, List.all_cons, one_row, len_row, ba_beqL, node_get84, srcS_row, List.append_assoc, List.cons_append, List.nil_append]
      refine xE.of (by first | rfl | (simp; done) | (simp; repeat' constructor)) ?_
      simp only [go_sem, Nat.reduceAdd, Nat.reduceEqDiff, Nat.reduceLeDiff, true_and, ProgM.enc, NodeM.enc, EqM.enc, VarM.enc, enc_one, enc_len, enc_get43, enc_get47, eqc_get81, eqc_get128, List.length_map, List.length_cons, List.all_cons, one_row, len_row, ba_beqL, node_get84, srcS_row, List.append_assoc, List.cons_append, List.nil_append]
      refine hK9 _ ?_; try clear hK9 K9
      conv => enter [5]; simp only [setL_cons, setL_nil, List.set_cons_zero, List.set_cons_succ, upd_none, upd_at]
      show AW _ _ _ _ _ (σ ++ [.cells p.enc.cells, .cells [.nilsl], .cells [.slo true 5 (((p.nodes.take i).map NodeM.own).map NodeM.enc) (σ.length + 3)], .cap i 5, .cells m.enc.cells, .cells [str m.name, rowAV 2 true (m.ins.map VarM.enc), rowAV 2 true (m.outs.map VarM.enc), rowAV 2 true (m.locals.map VarM.enc), .nilsl]]) _
      refine AW.cap 6 ?_
      simp only [List.append_assoc, List.cons_append, List.nil_append]
      refine AW.own (σ.length + 5) 4 (σ.length + 6) ((app_get σ _ 5).trans rfl) rfl ((app_get σ _ 6).trans rfl) (by decide) ?_
      simp only [app_set, List.set_cons_zero, List.set_cons_succ]
      refine AW.seq_k fun K10 hK10 => ?_
      refine AW.regl false [7] (by rfl) fun K11 hK11 => ?_ -- region 7
      simp only [go_sem, Nat.reduceAdd, Nat.reduceEqDiff, Nat.reduceLeDiff, true_and, ProgM.enc, NodeM.enc, EqM.enc, VarM.enc, enc_one, enc_len, enc_get43, enc_get47, eqc_get81, eqc_get128, List.length_map, List.length_cons, List.all_cons, one_row, len_row, ba_beqL, node_get84, srcS_row]
      refine hK11 _ _ ?_; try clear hK11 K11
      conv => enter [5]; simp only [setL_cons, setL_nil, List.set_cons_zero, List.set_cons_succ]
      refine AW.block ?_
      refine AW.loop_dr (α := Nat) (fun j => [.any, (.ref σ.length 0), (.ref (σ.length + 1) 0), (.ref (σ.length + 2) 0), (.val (.int .i64 ((i : Nat) : Int))), (.ref (σ.length + 4) 0), (.ref (σ.length + 5) 0), (.val (.int .i64 ((j : Nat) : Int))), .any, .any, .any, .any, .any, .any, .any, .any, .any, .any, .any, .any, .any, .any, .any, .any, .any, .any, .any, .any, .any, .any, .any, .any, .any, .any, .any, .any, .any, .any, .any, .any, .any, .any, .any, .any, .any, .any, .any, .any, .any, .any, .any, .any, .any, .any, .any, .any, .any, .any, .any, .any, .any, .any, .any, .any, .any, .any, .any]) (fun j => σ ++ [.cells (ProgM.enc p).cells, .cells [.nilsl], .cells [.slo true 5 (((p.nodes.take i).map NodeM.own).map NodeM.enc) (σ.length + 3)], .cap i 5, .cells (NodeM.enc m).cells, .cells [.val (.string m.name), rowAV 2 true (m.ins.map VarM.enc), rowAV 2 true (m.outs.map VarM.enc), rowAV 2 true (m.locals.map VarM.enc), .slo true 6 (((m.eqs.take j).map EqM.own).map EqM.enc) (σ.length + 6)], .cap j 6]) (fun j => m.eqs.length - j) (fun j => j ≤ m.eqs.length) 0 ?_ ?_ ?_
      · exact ⟨Nat.zero_le _, by simp [Wk], rfl⟩
      · refine fun y _ => ⟨by simp [belL, AV.bel], bel_app σ fun a ha => ?_⟩
        simp only [List.mem_cons, List.not_mem_nil, or_false] at ha
        simp only [List.length_append, List.length_cons, List.length_nil]
        rcases ha with rfl | rfl | rfl | rfl | rfl | rfl | rfl
        · exact prog_bel p _
        · rfl
        · simp only [AO.bel, belL, AV.bel, Bool.and_true, Bool.and_eq_true, decide_eq_true_eq]
          exact ⟨by omega, belL_map _ _ fun x _ => node_bel x _⟩
        · rfl
        · exact node_obel m _
        · simp only [AO.bel, belL, AV.bel, row_bel var_bel, Bool.true_and, Bool.and_true, Bool.and_eq_true, decide_eq_true_eq]
          exact ⟨by omega, belL_map _ _ fun x _ => eq_bel x _⟩
        · rfl
      · intro j hi
        refine AW.seq_k fun K12 hK12 => ?_
        refine AW.regl false [36] (by rfl) fun K13 hK13 => ?_ -- region 8
        simp only [go_sem, Nat.reduceAdd, Nat.reduceEqDiff, Nat.reduceLeDiff, true_and, ProgM.enc, NodeM.enc, EqM.enc, VarM.enc, enc_one, enc_len, enc_get43, enc_get47, eqc_get81, eqc_get128, List.length_map, List.length_cons, List.all_cons, one_row, len_row, ba_beqL, node_get84, srcS_row]
        refine hK13 _ _ ?_; try clear hK13 K13
        conv => enter [5]; simp only [setL_cons, setL_nil, List.set_cons_zero, List.set_cons_succ]
        refine AW.cond rfl (fun hc36 => ?_) (fun hc36 => ?_)
        · skip
          have hj1 : j < m.eqs.length := by simpa using hc36
          obtain ⟨u, hu⟩ : ∃ z, z = m.eqs[j] := ⟨_, rfl⟩
          have hy : (m.eqs.map EqM.enc)[j]? = some (.agg (rowAV 1 u.nl (u.lhs.map str) :: u.rhs.enc.cells)) := by rw [hu, List.getElem?_map, List.getElem?_eq_getElem hj1]; rfl
          have hq : u.ok := hok.2.2.2.2.2 u (by rw [hu]; exact mem_at hj1)
          have hap := app_at (en := fun q : EqM => q.own.enc) hj1 (by have := hok.2.2.2.2.1; omega) true 6 88 (by decide)
          rw [show (m.eqs.take j).map (fun q : EqM => q.own.enc) = ((m.eqs.take j).map EqM.own).map EqM.enc by rw [List.map_map]; rfl] at hap
          have hap2 := fun (s : Sto) (k : Nat) (h : s[k]? = some (.cap 0 1)) => app_all s false 1 16 k (u.lhs.map str) (by rw [List.length_map]; have := hq.1.1; omega) (by decide) h
          have hql : (AV.agg (rowAV 1 false (u.lhs.map str) :: u.rhs.norm.enc.cells)).cells.length = 6 := eq_len u.own
          have hqa : (AV.agg (rowAV 1 false (u.lhs.map str) :: u.rhs.norm.enc.cells)).cells.all AV.one = true := eq_all u.own
          have htk : ((m.eqs.take j).map EqM.own).map EqM.enc ++ [.agg (rowAV 1 false (u.lhs.map str) :: u.rhs.norm.enc.cells)] = ((m.eqs.take (j + 1)).map EqM.own).map EqM.enc := by rw [List.map_map, List.map_map, hu]; exact take_at (EqM.enc ∘ EqM.own) hj1
          refine AW.skip ?_
          refine hK12 _ _ ?_; try clear hK12 K12
          refine AW.seq_k fun K14 hK14 => ?_
          refine AW.block ?_
          refine AW.lastch mixed [σ ++ [.cells (ProgM.enc p).cells, .cells [.nilsl], .cells [.slo true 5 (((p.nodes.take i).map NodeM.own).map NodeM.enc) (σ.length + 3)], .cap i 5, .cells (NodeM.enc m).cells, .cells [.val (.string m.name), rowAV 2 true (m.ins.map VarM.enc), rowAV 2 true (m.outs.map VarM.enc), rowAV 2 true (m.locals.map VarM.enc), .slo true 6 (((m.eqs.take j).map EqM.own).map EqM.enc) (σ.length + 6)], .cap j 6], σ ++ [.cells p.enc.cells, .cells [.nilsl], .cells [.slo true 5 (((p.nodes.take i).map NodeM.own).map NodeM.enc) (σ.length + 3)], .cap i 5, .cells m.enc.cells, .cells [str m.name, rowAV 2 true (m.ins.map VarM.enc), rowAV 2 true (m.outs.map VarM.enc), rowAV 2 true (m.locals.map VarM.enc), .slo true 6 (((m.eqs.take j).map EqM.own).map EqM.enc) (σ.length + 6)], .cap j 6, .cap 0 1], σ ++ [.cells p.enc.cells, .cells [.nilsl], .cells [.slo true 5 (((p.nodes.take i).map NodeM.own).map NodeM.enc) (σ.length + 3)], .cap i 5, .cells m.enc.cells, .cells [str m.name, rowAV 2 true (m.ins.map VarM.enc), rowAV 2 true (m.outs.map VarM.enc), rowAV 2 true (m.locals.map VarM.enc), .slo true 6 (((m.eqs.take j).map EqM.own).map EqM.enc) (σ.length + 6)], .cap j 6, .cap u.lhs.length 1], σ ++ [.cells p.enc.cells, .cells [.nilsl], .cells [.slo true 5 (((p.nodes.take i).map NodeM.own).map NodeM.enc) (σ.length + 3)], .cap i 5, .cells m.enc.cells, .cells [str m.name, rowAV 2 true (m.ins.map VarM.enc), rowAV 2 true (m.outs.map VarM.enc), rowAV 2 true (m.locals.map VarM.enc), .slo true 6 (((m.eqs.take j).map EqM.own).map EqM.enc) (σ.length + 6)], .cap (j + 1) 6, .cap u.lhs.length 1], σ ++ [.cells p.enc.cells, .cells [.nilsl], .cells [.slo true 5 (((p.nodes.take i).map NodeM.own).map NodeM.enc) (σ.length + 3)], .cap i 5, .cells m.enc.cells, .cells [str m.name, rowAV 2 true (m.ins.map VarM.enc), rowAV 2 true (m.outs.map VarM.enc), rowAV 2 true (m.locals.map VarM.enc), .slo true 6 (((m.eqs.take (j + 1)).map EqM.own).map EqM.enc) (σ.length + 6)], .cap (j + 1) 6, .cap u.lhs.length 1]] [(0, 2, true), (0, 2, true), (0, 0, false), (0, 1, true), (0, 1, true), (0, 1, true), (0, 1, true), (0, 1, true), (0, 1, true), (0, 0, false), (0, 2, true), (0, 2, true), (0, 2, true), (0, 2, true), (0, 2, true), (0, 2, true), (2, 2, true), (2, 2, true), (2, 2, true), (0, 0, false), (3, 3, true), (0, 0, false)] [] (by kernel_rfl) (by rfl) (by kernel_rfl) (by rfl) fun K hK => ?_ -- region 10
          simp only [go_sem, Nat.reduceAdd, Nat.reduceEqDiff, Nat.reduceLeDiff, true_and, ProgM.enc, NodeM.enc, EqM.enc, VarM.enc, enc_one, enc_len, enc_get43, enc_get47, eqc_get81, eqc_get128, List.length_map, List.length_cons, List.all_cons, one_row, len_row, ba_beqL, node_get84, srcS_row, at_row hy, hap, hap2, row1_95 _ (.agg (rowAV 1 false (u.lhs.map str) :: u.rhs.norm.enc.cells)) hql hqa, htk, List.append_assoc, List.cons_append, List.nil_append]
          refine xE.of (by first | rfl | (simp; done) | (simp; repeat' constructor)) ?_
          simp only [go_sem, Nat.reduceAdd, Nat.reduceEqDiff, Nat.reduceLeDiff, true_and, ProgM.enc, NodeM.enc, EqM.enc, VarM.enc, enc_one, enc_len, enc_get43, enc_get47, eqc_get81, eqc_get128, List.length_map, List.length_cons, List.all_cons, one_row, len_row, ba_beqL, node_get84, srcS_row, at_row hy, hap, hap2, row1_95 _ (.agg (rowAV 1 false (u.lhs.map str) :: u.rhs.norm.enc.cells)) hql hqa, htk, List.append_assoc, List.cons_append, List.nil_append]
          refine xE.weak (rowAV 1 false (u.lhs.map str)) (weak_row false 1 _ _) (by first | rfl | (simp; done) | (simp; repeat' constructor)) ?_
          simp only [go_sem, Nat.reduceAdd, Nat.reduceEqDiff, Nat.reduceLeDiff, true_and, ProgM.enc, NodeM.enc, EqM.enc, VarM.enc, enc_one, enc_len, enc_get43, enc_get47, eqc_get81, eqc_get128, List.length_map, List.length_cons, List.all_cons, one_row, len_row, ba_beqL, node_get84, srcS_row, at_row hy, hap, hap2, row1_95 _ (.agg (rowAV 1 false (u.lhs.map str) :: u.rhs.norm.enc.cells)) hql hqa, htk, List.append_assoc, List.cons_append, List.nil_append]
          refine xQ.of en12 (fun s _ => ((own_calls u.rhs (by have := hq.2.1; omega))) s) (by rfl) ?_
          simp only [go_sem, Nat.reduceAdd, Nat.reduceEqDiff, Nat.reduceLeDiff, true_and, ProgM.enc, NodeM.enc, EqM.enc, VarM.enc, enc_one, enc_len, enc_get43, enc_get47, eqc_get81, eqc_get128, List.length_map, List.length_cons, List.all_cons, one_row, len_row, ba_beqL, node_get84, srcS_row, at_row hy, hap, hap2, row1_95 _ (.agg (rowAV 1 false (u.lhs.map str) :: u.rhs.norm.enc.cells)) hql hqa, htk, List.append_assoc, List.cons_append, List.nil_append]
          refine xE.of (by first | rfl | (simp; done) | (simp; repeat' constructor)) ?_
          simp only [go_sem, Nat.reduceAdd, Nat.reduceEqDiff, Nat.reduceLeDiff, true_and, ProgM.enc, NodeM.enc, EqM.enc, VarM.enc, enc_one, enc_len, enc_get43, enc_get47, eqc_get81, eqc_get128, List.length_map, List.length_cons, List.all_cons, one_row, len_row, ba_beqL, node_get84, srcS_row, at_row hy, hap, hap2, row1_95 _ (.agg (rowAV 1 false (u.lhs.map str) :: u.rhs.norm.enc.cells)) hql hqa, htk, List.append_assoc, List.cons_append, List.nil_append]
          refine xE.of (by first | rfl | (simp; done) | (simp; repeat' constructor)) ?_
          simp only [go_sem, Nat.reduceAdd, Nat.reduceEqDiff, Nat.reduceLeDiff, true_and, ProgM.enc, NodeM.enc, EqM.enc, VarM.enc, enc_one, enc_len, enc_get43, enc_get47, eqc_get81, eqc_get128, List.length_map, List.length_cons, List.all_cons, one_row, len_row, ba_beqL, node_get84, srcS_row, at_row hy, hap, hap2, row1_95 _ (.agg (rowAV 1 false (u.lhs.map str) :: u.rhs.norm.enc.cells)) hql hqa, htk, List.append_assoc, List.cons_append, List.nil_append]
          refine hK _ fun env' hw => ?_
          simp only [setL_cons, setL_nil, List.set_cons_zero, List.set_cons_succ, upd_none, upd_at] at hw
          refine hK14 _ _ (AW.weaken hw ?_); clear hw; try clear hK14 K14
          refine AW.lastl false [7] (by rfl) fun K hK => ?_ -- region 9
          simp only [go_sem, Nat.reduceAdd, Nat.reduceEqDiff, Nat.reduceLeDiff, true_and, ProgM.enc, NodeM.enc, EqM.enc, VarM.enc, enc_one, enc_len, enc_get43, enc_get47, eqc_get81, eqc_get128, List.length_map, List.length_cons, List.all_cons, one_row, len_row, ba_beqL, node_get84, srcS_row]
          refine hK _ _ fun env' hw => ?_
          simp only [setL_cons, setL_nil, List.set_cons_zero, List.set_cons_succ] at hw
          refine ⟨j + 1, by omega, by omega, ?_, by first | rfl | (simp [List.take_append, List.take_of_length_le]; done) | (simp [List.take_append, List.take_of_length_le]; repeat' constructor)⟩
          refine hw.trans ?_
          simp [Wk, wrap_succ hj1 hle]
          try omega
        · skip
          have hj1 : j = m.eqs.length := by
            have : ¬ j < m.eqs.length := by simpa using hc36
            omega
          refine AW.exit ?_
          refine hK10 _ _ ?_; try clear hK10 K10
          refine AW.still (σ.length + 5) ((app_get σ _ 5).trans rfl) ?_
          simp only [app_set, List.set_cons_zero, List.set_cons_succ, List.map_cons, List.map_nil, still_slo, still_val, still_row]
          rw [hj1, List.take_length]
          have hapN := app_at (en := fun x : NodeM => x.own.enc) hi1 (by have := hpk.1; omega) true 5 112 (by decide)
          rw [show (p.nodes.take i).map (fun x : NodeM => x.own.enc) = ((p.nodes.take i).map NodeM.own).map NodeM.enc by rw [List.map_map]; rfl] at hapN
          have htkN : ((p.nodes.take i).map NodeM.own).map NodeM.enc ++ [.agg [str m.name, rowAV 2 true (m.ins.map VarM.enc), rowAV 2 true (m.outs.map VarM.enc), rowAV 2 true (m.locals.map VarM.enc), rowAV 6 true ((m.eqs.map EqM.own).map EqM.enc)]] = ((p.nodes.take (i + 1)).map NodeM.own).map NodeM.enc := by
            have h := take_at (fun x : NodeM => x.own.enc) hi1
            rw [← hm] at h
            rw [List.map_map (l := p.nodes.take i), List.map_map (l := p.nodes.take (i + 1))]
            exact h
          have hrow := fun σ => row1_89 σ (.agg [str m.name, rowAV 2 true (m.ins.map VarM.enc), rowAV 2 true (m.outs.map VarM.enc), rowAV 2 true (m.locals.map VarM.enc), rowAV 6 true ((m.eqs.map EqM.own).map EqM.enc)]) rfl (node_all m.own)
          refine AW.lastl false [] (by rfl) fun K hK => ?_ -- region 11
          simp only [go_sem, Nat.reduceAdd, Nat.reduceEqDiff, Nat.reduceLeDiff, true_and, ProgM.enc, NodeM.enc, EqM.enc, VarM.enc, enc_one, enc_len, enc_get43, enc_get47, eqc_get81, eqc_get128, List.length_map, List.length_cons, List.all_cons, one_row, len_row, ba_beqL, node_get84, srcS_row, hapN, hrow, htkN]
          refine hK _ _ fun env' hw => ?_
          simp only [setL_cons, setL_nil, List.set_cons_zero, List.set_cons_succ] at hw
          refine hK7 _ _ (AW.weaken hw ?_); clear hw; try clear hK7 K7
          refine AW.lastl false [4] (by rfl) fun K hK => ?_ -- region 4
          simp only [go_sem, Nat.reduceAdd, Nat.reduceEqDiff, Nat.reduceLeDiff, true_and, ProgM.enc, NodeM.enc, EqM.enc, VarM.enc, enc_one, enc_len, enc_get43, enc_get47, eqc_get81, eqc_get128, List.length_map, List.length_cons, List.all_cons, one_row, len_row, ba_beqL, node_get84, srcS_row]
          refine hK _ _ fun env' hw => ?_
          simp only [setL_cons, setL_nil, List.set_cons_zero, List.set_cons_succ] at hw
          refine ⟨i + 1, by omega, by omega, ?_, by first | rfl | (simp [List.take_append, List.take_of_length_le]; done) | (simp [List.take_append, List.take_of_length_le]; repeat' constructor)⟩
          refine hw.trans ?_
          simp [Wk, wrap_succ hi1 hl]
          try omega
    · skip
      have hi1 : i = p.nodes.length := by
        have : ¬ i < p.nodes.length := by simpa using hc12
        omega
      refine AW.exit ?_
      refine hK3 _ _ ?_; try clear hK3 K3
      refine AW.regl false [] (by rfl) fun K15 hK15 => ?_ -- region 12
      simp only [go_sem, Nat.reduceAdd, Nat.reduceEqDiff, Nat.reduceLeDiff, true_and, ProgM.enc, NodeM.enc, EqM.enc, VarM.enc, enc_one, enc_len, enc_get43, enc_get47, eqc_get81, eqc_get128, List.length_map, List.length_cons, List.all_cons, one_row, len_row, ba_beqL, node_get84, srcS_row]
      refine hK15 _ _ ?_; try clear hK15 K15
      conv => enter [5]; simp only [setL_cons, setL_nil, List.set_cons_zero, List.set_cons_succ, upd_none, upd_at]
      rw [hi1, List.take_length]
      refine AW.ret ⟨.inr rfl, _, ret_cell (v := .agg [.slo true 5 ((p.nodes.map NodeM.own).map NodeM.enc) (σ.length + 3)]) rfl ((load_app σ _ 91 1 0).trans (by simp only [go_sem, aLoadAt] <;> rfl)), by simp, ?_⟩
      exact .agg (.cons (frz_row (fun x n => node_bel x n) (by omega) (p.nodes.map NodeM.own)) .nil)
end A
end Go.Proofs.Tryd

