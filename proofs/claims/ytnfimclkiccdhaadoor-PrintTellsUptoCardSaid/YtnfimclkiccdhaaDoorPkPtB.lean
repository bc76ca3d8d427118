import Derived.Test.YtnfimclkiccdhaaDoorPkPtA
import Derived.Test.YtnfimclkiccdhaaDoorPtEvChain
import Derived.Shelf.Strings.Builder1
import Derived.Shelf.RegionOpenPlain
import Derived.Test.YtnfimclkiccdhaaDoorProg
import Derived.Test.YtnfimclkiccdhaaDoorPtTy
import Derived.Test.YtnfimclkiccdhaaDoorPtEvApU
import Derived.Test.YtnfimclkiccdhaaDoorPtEvShelf
import Derived.Test.YtnfimclkiccdhaaDoorPtEvMove
import Derived.Test.YtnfimclkiccdhaaDoorPtEvCut
import Derived.Test.YtnfimclkiccdhaaDoorPtEvBulk
import Derived.Test.YtnfimclkiccdhaaDoorPtEvFull
import Derived.Test.YtnfimclkiccdhaaDoorPtEvAny
import Derived.Test.YtnfimclkiccdhaaDoorPtEvSeqm
import Derived.Test.YtnfimclkiccdhaaDoorPtEvList
import Derived.Test.YtnfimclkiccdhaaDoorPtEvFreez
import Derived.Shelf.Strings.OnBuilder
import Derived.Shelf.Small.Wraps
import Derived.Shelf.LaysM
import Derived.Shelf.Strconv.Itoa4
import Derived.Test.YtnfimclkiccdhaaDoorPtEvRow
/-! Programs: what the functions come to. -/
namespace Go.Proofs.Tryd
set_option linter.unusedSimpArgs false
set_option linter.unusedVariables false
open Go Go.Proofs.Ev
namespace A
variable {Γ : List (Nat × List AV)}
structure VarM where
  name : ByteArray
  type : Int
structure EqM where
  nl : Bool
  lhs : List ByteArray
  rhs : E
structure NodeM where
  name : ByteArray
  nlI : Bool
  ins : List VarM
  nlO : Bool
  outs : List VarM
  nlL : Bool
  locals : List VarM
  nlE : Bool
  eqs : List EqM
structure ProgM where
  nl : Bool
  nodes : List NodeM
def VarM.enc (v : VarM) : AV := .agg [str v.name, i64 v.type]
def EqM.enc (q : EqM) : AV := .agg (rowAV 1 q.nl (q.lhs.map str) :: q.rhs.enc.cells)
def NodeM.enc (n : NodeM) : AV := .agg [str n.name, rowAV 2 n.nlI (n.ins.map VarM.enc), rowAV 2 n.nlO (n.outs.map VarM.enc), rowAV 2 n.nlL (n.locals.map VarM.enc), rowAV 6 n.nlE (n.eqs.map EqM.enc)]
def ProgM.enc (p : ProgM) : AV := .agg [rowAV 5 p.nl (p.nodes.map NodeM.enc)]
theorem var_bel (v : VarM) (n : Nat) : v.enc.bel n = true := rfl
theorem str_bel (s : ByteArray) (n : Nat) : (str s).bel n = true := rfl
theorem bel_cells (n : Nat) (e : E) : belL n e.enc.cells = true := cells_bel e n
theorem eq_bel (q : EqM) (n : Nat) : q.enc.bel n = true := by simp [EqM.enc, AV.bel, belL, row_bel str_bel, bel_cells]
theorem node_bel (q : NodeM) (n : Nat) : q.enc.bel n = true := by simp [NodeM.enc, AV.bel, belL, str_bel, row_bel var_bel, row_bel eq_bel]
theorem prog_bel (q : ProgM) (n : Nat) : AO.bel n (.cells q.enc.cells) = true := by simp [ProgM.enc, AV.cells, AO.bel, belL, row_bel node_bel]
theorem node_obel (q : NodeM) (n : Nat) : AO.bel n (.cells q.enc.cells) = true := by simp [NodeM.enc, AV.cells, AO.bel, belL, str_bel, row_bel var_bel, row_bel eq_bel]
theorem var_get160 (v : VarM) : aGet prog 86 v.enc.cells = some v.enc := by simp only [VarM.enc, go_sem]
theorem get_eq {T : TypeId} (hT : tAgg prog T = some (some 6)) (a : AV) (e : E) : aGet prog T (a :: e.enc.cells) = some (.agg (a :: e.enc.cells)) := by
  obtain ⟨b, c, d, f, r, h⟩ := enc_cells e
  rw [h, aGet_many hT]
  rfl
theorem eqc_get81 (a : AV) (e : E) : aGet prog 53 (a :: e.enc.cells) = some (.agg (a :: e.enc.cells)) := get_eq tA53 a e
theorem eqc_get128 (a : AV) (e : E) : aGet prog 68 (a :: e.enc.cells) = some (.agg (a :: e.enc.cells)) := get_eq tA68 a e
theorem eq_get128 (q : EqM) : aGet prog 68 q.enc.cells = some q.enc := eqc_get128 _ _
theorem eq_all (q : EqM) : q.enc.cells.all AV.one = true := by
  show (rowAV 1 q.nl (q.lhs.map str) :: q.rhs.enc.cells).all AV.one = true
  rw [List.all_cons, one_row, enc_one]
  rfl
theorem eq_len (q : EqM) : q.enc.cells.length = 6 := by
  show (rowAV 1 q.nl (q.lhs.map str) :: q.rhs.enc.cells).length = 6
  rw [List.length_cons, enc_len]
theorem node_get84 (q : NodeM) : aGet prog 50 q.enc.cells = some q.enc := by simp only [NodeM.enc, go_sem]
theorem node_get97 (q : NodeM) : aGet prog 63 q.enc.cells = some q.enc := by simp only [NodeM.enc, go_sem]
theorem node_all (q : NodeM) : q.enc.cells.all AV.one = true := by simp only [NodeM.enc, AV.cells, List.all_cons, List.all_nil, one_row, one_str, Bool.and_true]
theorem node_len (q : NodeM) : q.enc.cells.length = 5 := rfl
theorem prog_all (q : ProgM) : q.enc.cells.all AV.one = true := by simp only [ProgM.enc, AV.cells, List.all_cons, List.all_nil, one_row, Bool.and_true]
theorem str_get9 (s : ByteArray) : aGet prog 9 (str s).cells = some (str s) := get9 _ []
/-! Small enough to be told. -/
def VarM.ok (v : VarM) : Prop := v.name.size ≤ 1100000
def EqM.ok (q : EqM) : Prop := (q.lhs.length ≤ 1100000 ∧ ∀ s ∈ q.lhs, s.size ≤ 1100000) ∧ q.rhs.size ≤ 1100000 ∧ q.rhs.fits
def varsOk (l : List VarM) : Prop := l.length ≤ 1100000 ∧ ∀ v ∈ l, v.ok
def NodeM.ok (n : NodeM) : Prop := n.name.size ≤ 1100000 ∧ varsOk n.ins ∧ varsOk n.outs ∧ varsOk n.locals ∧ n.eqs.length ≤ 1100000 ∧ ∀ q ∈ n.eqs, q.ok
def ProgM.ok (p : ProgM) : Prop := p.nodes.length ≤ 1100000 ∧ ∀ n ∈ p.nodes, n.ok
/-! What may be. -/
def VarM.wrong (v : VarM) : Bool := !nameM v.name || decide (v.type < 0) || decide (v.type > 1)
def varsR (l : List VarM) : Bool := decide ((l.length : Int) ≤ 1000) && !l.any VarM.wrong
def exprR (e : E) : Bool := e.shape && decide ((e.depth : Int) ≤ 200)
def EqM.right (q : EqM) : Bool := ((decide ((q.lhs.length : Int) ≥ 1) && decide ((q.lhs.length : Int) ≤ 1000)) && !q.lhs.any fun s => !nameM s) && exprR q.rhs
def NodeM.right (n : NodeM) : Bool := ((nameM n.name && (((varsR n.ins && varsR n.outs) && decide ((n.outs.length : Int) ≥ 1)) && varsR n.locals)) && decide ((n.eqs.length : Int) ≤ 1000)) && !n.eqs.any fun q => !q.right
def ProgM.right (p : ProgM) : Bool := decide ((p.nodes.length : Int) ≤ 1000) && !p.nodes.any fun n => !n.right
theorem shape_pre : ∀ e : E, e.shape = e.pre.all E.single := E.ind fun k o n s nl l ih => by
  have go : ∀ l : List E, (∀ e ∈ l, e.shape = e.pre.all E.single) → shapeL l = (preL l).all E.single := by
    intro l
    induction l with
    | nil => intro _; rfl
    | cons e l ih' =>
      intro h
      rw [shapeL, preL, List.all_append, ← h e List.mem_cons_self, ih' fun d hd => h d (List.mem_cons_of_mem _ hd)]
  rw [E.shape, E.pre, List.all_cons, go l ih, Bool.and_comm]
  rfl
/-! What is the same. -/
abbrev KNode := ByteArray × List (ByteArray × Int) × List (ByteArray × Int) × List (ByteArray × Int) × List (List ByteArray × E)
noncomputable instance : DecidableEq KNode := fun _ _ => Classical.propDecidable _
noncomputable instance : DecidableEq (List ByteArray × E) := fun _ _ => Classical.propDecidable _
def EqM.own (q : EqM) : EqM := ⟨false, q.lhs, q.rhs.norm⟩
def NodeM.own (n : NodeM) : NodeM := { n with nlI := true, nlO := true, nlL := true, nlE := true, eqs := n.eqs.map EqM.own }
def ProgM.own (p : ProgM) : ProgM := ⟨true, p.nodes.map NodeM.own⟩
set_option maxRecDepth 100000 in
theorem rvars_calls (nl : Bool) (l : List VarM) (hl : varsOk l) : APure prog Γ 38 [rowAV 2 nl (l.map VarM.enc)] (.val (.bool (varsR l))) := by
  refine APure.of func38 rfl fun σ => ?_
  simp only [ntmps38, List.length_cons, List.length_nil, Nat.reduceAdd, Nat.reduceSub, List.replicate_succ, List.replicate_zero, List.cons_append, List.nil_append]
  have hl0 : l.length ≤ maxLen := by rw [maxLen_eq]; have := hl.1; omega
  refine AW.regl false [2] (by rfl) fun K1 hK1 => ?_ -- region 0
  simp only [go_sem, Nat.reduceAdd, Nat.reduceEqDiff, Nat.reduceLeDiff, true_and, ProgM.enc, NodeM.enc, EqM.enc, VarM.enc, enc_one, enc_len, enc_get43, enc_get47, eqc_get81, eqc_get128, List.length_map, List.length_cons, List.all_cons, one_row, len_row, ba_beqL]
  refine hK1 _ _ ?_; try clear hK1 K1
  conv => enter [5]; simp only [setL_cons, setL_nil, List.set_cons_zero, List.set_cons_succ]
  refine AW.seq_k fun K2 hK2 => ?_
  refine AW.regl false [3] (by rfl) fun K3 hK3 => ?_ -- region 1
  simp only [go_sem, Nat.reduceAdd, Nat.reduceEqDiff, Nat.reduceLeDiff, true_and, ProgM.enc, NodeM.enc, EqM.enc, VarM.enc, enc_one, enc_len, enc_get43, enc_get47, eqc_get81, eqc_get128, List.length_map, List.length_cons, List.all_cons, one_row, len_row, ba_beqL]
  refine hK3 _ _ ?_; try clear hK3 K3
  conv => enter [5]; simp only [setL_cons, setL_nil, List.set_cons_zero, List.set_cons_succ]
  refine AW.block ?_
  refine AW.loop_wk (α := Nat) (fun i => [(rowAV 2 nl (l.map VarM.enc)), .any, .any, (.val (.int .i64 ((i : Nat) : Int))), .any, .any, .any, .any, .any, .any, .any, .any, .any, .any, .any, .any, .any, .any, .any, .any, .any, .any, .any, .any, .any, .any, .any, .any, .any, .any, .any, .any, .any, .any, .any, .any]) (fun i => σ) (fun i => l.length - i) (fun i => i ≤ l.length ∧ (l.take i).any VarM.wrong = false) 0 ?_ ?_
  · exact ⟨⟨Nat.zero_le _, rfl⟩, by simp [Wk], rfl⟩
  · rintro i ⟨hi, hit⟩
    refine AW.seq_k fun K4 hK4 => ?_
    refine AW.regl false [7] (by rfl) fun K5 hK5 => ?_ -- region 2
    simp only [go_sem, Nat.reduceAdd, Nat.reduceEqDiff, Nat.reduceLeDiff, true_and, ProgM.enc, NodeM.enc, EqM.enc, VarM.enc, enc_one, enc_len, enc_get43, enc_get47, eqc_get81, eqc_get128, List.length_map, List.length_cons, List.all_cons, one_row, len_row, ba_beqL]
    refine hK5 _ _ ?_; try clear hK5 K5
    conv => enter [5]; simp only [setL_cons, setL_nil, List.set_cons_zero, List.set_cons_succ]
    refine AW.cond rfl (fun hc7 => ?_) (fun hc7 => ?_)
    · skip
      have hi1 : i < l.length := by simpa using hc7
      obtain ⟨v, hv⟩ : ∃ z, z = l[i] := ⟨_, rfl⟩
      have hx : (l.map VarM.enc)[i]? = some (VarM.enc v) := by rw [hv, List.getElem?_map, List.getElem?_eq_getElem hi1]; rfl
      have hvn : v.name.size ≤ 1000000000 := by have := hl.2 v (by rw [hv]; exact mem_at hi1); unfold VarM.ok at this; omega
      refine AW.skip ?_
      refine hK4 _ _ ?_; try clear hK4 K4
      refine AW.seq_k fun K6 hK6 => ?_
      refine AW.block ?_
      refine AW.regtf false 32 (.val (.bool (VarM.wrong v))) (by rfl) ?_ ?_ -- region 4
      · skip
        cases h15 : ((nameM v.name))
        · skip
          simp only [go_sem, Nat.reduceAdd, Nat.reduceEqDiff, Nat.reduceLeDiff, true_and, ProgM.enc, NodeM.enc, EqM.enc, VarM.enc, enc_one, enc_len, enc_get43, enc_get47, eqc_get81, eqc_get128, List.length_map, List.length_cons, List.all_cons, one_row, len_row, ba_beqL, at_row hx, VarM.wrong, h15]
          refine sC.of en37 ((rname_calls v.name (by first | assumption | omega)).on _).here (by rfl) ?_
          simp only [go_sem, Nat.reduceAdd, Nat.reduceEqDiff, Nat.reduceLeDiff, true_and, ProgM.enc, NodeM.enc, EqM.enc, VarM.enc, enc_one, enc_len, enc_get43, enc_get47, eqc_get81, eqc_get128, List.length_map, List.length_cons, List.all_cons, one_row, len_row, ba_beqL, at_row hx, VarM.wrong, h15]
          try simp [upd_at, h15, ProgM.enc, NodeM.enc, EqM.enc, VarM.enc, enc_one, enc_len, enc_get43, enc_get47, eqc_get81, eqc_get128, List.length_map, List.length_cons, List.all_cons, one_row, len_row, ba_beqL, at_row hx, VarM.wrong]
          all_goals try (simp_all <;> omega)
          all_goals try (rw [Bool.eq_iff_iff]; simp at *; omega)
        · skip
          cases h23 : ((v.type != 0))
          · skip
            simp only [go_sem, Nat.reduceAdd, Nat.reduceEqDiff, Nat.reduceLeDiff, true_and, ProgM.enc, NodeM.enc, EqM.enc, VarM.enc, enc_one, enc_len, enc_get43, enc_get47, eqc_get81, eqc_get128, List.length_map, List.length_cons, List.all_cons, one_row, len_row, ba_beqL, at_row hx, VarM.wrong, h15, h23]
            refine sC.of en37 ((rname_calls v.name (by first | assumption | omega)).on _).here (by rfl) ?_
            simp only [go_sem, Nat.reduceAdd, Nat.reduceEqDiff, Nat.reduceLeDiff, true_and, ProgM.enc, NodeM.enc, EqM.enc, VarM.enc, enc_one, enc_len, enc_get43, enc_get47, eqc_get81, eqc_get128, List.length_map, List.length_cons, List.all_cons, one_row, len_row, ba_beqL, at_row hx, VarM.wrong, h15, h23]
            try simp [upd_at, h15, h23, ProgM.enc, NodeM.enc, EqM.enc, VarM.enc, enc_one, enc_len, enc_get43, enc_get47, eqc_get81, eqc_get128, List.length_map, List.length_cons, List.all_cons, one_row, len_row, ba_beqL, at_row hx, VarM.wrong]
            all_goals try (simp_all <;> omega)
            all_goals try (rw [Bool.eq_iff_iff]; simp at *; omega)
          · skip
            simp only [go_sem, Nat.reduceAdd, Nat.reduceEqDiff, Nat.reduceLeDiff, true_and, ProgM.enc, NodeM.enc, EqM.enc, VarM.enc, enc_one, enc_len, enc_get43, enc_get47, eqc_get81, eqc_get128, List.length_map, List.length_cons, List.all_cons, one_row, len_row, ba_beqL, at_row hx, VarM.wrong, h15, h23]
            refine sC.of en37 ((rname_calls v.name (by first | assumption | omega)).on _).here (by rfl) ?_
            simp only [go_sem, Nat.reduceAdd, Nat.reduceEqDiff, Nat.reduceLeDiff, true_and, ProgM.enc, NodeM.enc, EqM.enc, VarM.enc, enc_one, enc_len, enc_get43, enc_get47, eqc_get81, eqc_get128, List.length_map, List.length_cons, List.all_cons, one_row, len_row, ba_beqL, at_row hx, VarM.wrong, h15, h23]
            try simp [upd_at, h15, h23, ProgM.enc, NodeM.enc, EqM.enc, VarM.enc, enc_one, enc_len, enc_get43, enc_get47, eqc_get81, eqc_get128, List.length_map, List.length_cons, List.all_cons, one_row, len_row, ba_beqL, at_row hx, VarM.wrong]
            all_goals try (simp_all <;> omega)
            all_goals try (rw [Bool.eq_iff_iff]; simp at *; omega)
      conv => enter [5]; simp only [List.set_cons_zero, List.set_cons_succ]
      refine AW.cond rfl (fun hc32 => ?_) (fun hc32 => ?_)
      · skip
        have hbad : VarM.wrong l[i] = true := by rw [← hv]; exact hc32
        refine AW.regl false [2] (by rfl) fun K8 hK8 => ?_ -- region 5
        simp only [go_sem, Nat.reduceAdd, Nat.reduceEqDiff, Nat.reduceLeDiff, true_and, ProgM.enc, NodeM.enc, EqM.enc, VarM.enc, enc_one, enc_len, enc_get43, enc_get47, eqc_get81, eqc_get128, List.length_map, List.length_cons, List.all_cons, one_row, len_row, ba_beqL]
        refine hK8 _ _ ?_; try clear hK8 K8
        conv => enter [5]; simp only [setL_cons, setL_nil, List.set_cons_zero, List.set_cons_succ]
        refine AW.ret ⟨.inr rfl, _, rfl, by simp, ?_⟩ -- return 1
        refine frzB ?_
        unfold varsR
        rw [any_at hi1 hbad]
        simp
      · skip
        have hbad : VarM.wrong l[i] = false := by rw [← hv]; exact hc32
        refine AW.skip ?_
        refine hK6 _ _ ?_; try clear hK6 K6
        refine AW.lastl false [3] (by rfl) fun K hK => ?_ -- region 3
        simp only [go_sem, Nat.reduceAdd, Nat.reduceEqDiff, Nat.reduceLeDiff, true_and, ProgM.enc, NodeM.enc, EqM.enc, VarM.enc, enc_one, enc_len, enc_get43, enc_get47, eqc_get81, eqc_get128, List.length_map, List.length_cons, List.all_cons, one_row, len_row, ba_beqL]
        refine hK _ _ fun env' hw => ?_
        simp only [setL_cons, setL_nil, List.set_cons_zero, List.set_cons_succ] at hw
        refine ⟨i + 1, by omega, ⟨by omega, any_step hi1 hit hbad⟩, ?_, rfl⟩
        refine hw.trans ?_
        simp [Wk, wrap_succ hi1 hl0]
        try omega
    · skip
      have hi1 : i = l.length := by
        have : ¬ i < l.length := by simpa using hc7
        omega
      have hall := any_end (by omega) hit
      refine AW.exit ?_
      refine hK2 _ _ ?_; try clear hK2 K2
      refine AW.regl false [2] (by rfl) fun K9 hK9 => ?_ -- region 6
      simp only [go_sem, Nat.reduceAdd, Nat.reduceEqDiff, Nat.reduceLeDiff, true_and, ProgM.enc, NodeM.enc, EqM.enc, VarM.enc, enc_one, enc_len, enc_get43, enc_get47, eqc_get81, eqc_get128, List.length_map, List.length_cons, List.all_cons, one_row, len_row, ba_beqL]
      refine hK9 _ _ ?_; try clear hK9 K9
      conv => enter [5]; simp only [setL_cons, setL_nil, List.set_cons_zero, List.set_cons_succ]
      refine AW.ret ⟨.inr rfl, _, rfl, by simp, ?_⟩ -- return 2
      refine frzB ?_
      unfold varsR
      rw [hall]
      simp

set_option maxRecDepth 100000 in
theorem wrong_calls (hΓ : Words Γ) (v : VarM) (hv : v.ok) : APure prog Γ 63 [VarM.enc v] (.val (.bool (VarM.wrong v))) := by
  refine APure.of func63 rfl fun σ => ?_
  simp only [ntmps63, List.length_cons, List.length_nil, Nat.reduceAdd, Nat.reduceSub, List.replicate_succ, List.replicate_zero, List.cons_append, List.nil_append]
  unfold VarM.ok at hv
  refine AW.regl false [1, 2] (by rfl) fun K1 hK1 => ?_ -- region 0
  simp only [go_sem, Nat.reduceAdd, Nat.reduceEqDiff, Nat.reduceLeDiff, true_and, ProgM.enc, NodeM.enc, EqM.enc, VarM.enc, enc_one, enc_len, enc_get43, enc_get47, eqc_get81, eqc_get128, List.length_map, List.length_cons, List.all_cons, one_row, len_row, ba_beqL]
  refine hK1 _ _ ?_; try clear hK1 K1
  conv => enter [5]; simp only [setL_cons, setL_nil, List.set_cons_zero, List.set_cons_succ]
  refine AW.regtf false 2 (.val (.bool ((!((nameM v.name)) || (decide (v.type < 0))) || (decide (v.type > 1))))) (by rfl) ?_ ?_ -- region 1
  · skip
    cases h5 : ((nameM v.name))
    · skip
      simp only [go_sem, Nat.reduceAdd, Nat.reduceEqDiff, Nat.reduceLeDiff, true_and, ProgM.enc, NodeM.enc, EqM.enc, VarM.enc, enc_one, enc_len, enc_get43, enc_get47, eqc_get81, eqc_get128, List.length_map, List.length_cons, List.all_cons, one_row, len_row, ba_beqL, h5]
      refine sC.of en49 ((name_calls hΓ v.name (by first | assumption | omega)).on _).here (by rfl) ?_
      simp only [go_sem, Nat.reduceAdd, Nat.reduceEqDiff, Nat.reduceLeDiff, true_and, ProgM.enc, NodeM.enc, EqM.enc, VarM.enc, enc_one, enc_len, enc_get43, enc_get47, eqc_get81, eqc_get128, List.length_map, List.length_cons, List.all_cons, one_row, len_row, ba_beqL, h5]
      try simp [upd_at, h5, ProgM.enc, NodeM.enc, EqM.enc, VarM.enc, enc_one, enc_len, enc_get43, enc_get47, eqc_get81, eqc_get128, List.length_map, List.length_cons, List.all_cons, one_row, len_row, ba_beqL]
    · skip
      cases h10 : ((decide (v.type < 0)))
      · skip
        simp only [go_sem, Nat.reduceAdd, Nat.reduceEqDiff, Nat.reduceLeDiff, true_and, ProgM.enc, NodeM.enc, EqM.enc, VarM.enc, enc_one, enc_len, enc_get43, enc_get47, eqc_get81, eqc_get128, List.length_map, List.length_cons, List.all_cons, one_row, len_row, ba_beqL, h5, h10]
        refine sC.of en49 ((name_calls hΓ v.name (by first | assumption | omega)).on _).here (by rfl) ?_
        simp only [go_sem, Nat.reduceAdd, Nat.reduceEqDiff, Nat.reduceLeDiff, true_and, ProgM.enc, NodeM.enc, EqM.enc, VarM.enc, enc_one, enc_len, enc_get43, enc_get47, eqc_get81, eqc_get128, List.length_map, List.length_cons, List.all_cons, one_row, len_row, ba_beqL, h5, h10]
        try simp [upd_at, h5, h10, ProgM.enc, NodeM.enc, EqM.enc, VarM.enc, enc_one, enc_len, enc_get43, enc_get47, eqc_get81, eqc_get128, List.length_map, List.length_cons, List.all_cons, one_row, len_row, ba_beqL]
      · skip
        simp only [go_sem, Nat.reduceAdd, Nat.reduceEqDiff, Nat.reduceLeDiff, true_and, ProgM.enc, NodeM.enc, EqM.enc, VarM.enc, enc_one, enc_len, enc_get43, enc_get47, eqc_get81, eqc_get128, List.length_map, List.length_cons, List.all_cons, one_row, len_row, ba_beqL, h5, h10]
        refine sC.of en49 ((name_calls hΓ v.name (by first | assumption | omega)).on _).here (by rfl) ?_
        simp only [go_sem, Nat.reduceAdd, Nat.reduceEqDiff, Nat.reduceLeDiff, true_and, ProgM.enc, NodeM.enc, EqM.enc, VarM.enc, enc_one, enc_len, enc_get43, enc_get47, eqc_get81, eqc_get128, List.length_map, List.length_cons, List.all_cons, one_row, len_row, ba_beqL, h5, h10]
        try simp [upd_at, h5, h10, ProgM.enc, NodeM.enc, EqM.enc, VarM.enc, enc_one, enc_len, enc_get43, enc_get47, eqc_get81, eqc_get128, List.length_map, List.length_cons, List.all_cons, one_row, len_row, ba_beqL]
  conv => enter [5]; simp only [List.set_cons_zero, List.set_cons_succ]
  refine AW.ret ⟨.inr rfl, _, rfl, by simp, ?_⟩ -- return 1
  refine frzB ?_
  rfl

set_option maxRecDepth 100000 in
theorem indexFunc77 {α : Type} (en : α → AV) (hen : ∀ a, aGet prog 86 (en a).cells = some (en a)) (nl : Bool) (l : List α) (hl : l.length ≤ maxLen) (g : FuncId) (hg : Enters prog g) (caps : List AV) (p : α → Bool) (σ : Sto) (hp : ∀ a ∈ l, APureOn prog Γ g (en a :: caps) σ (.val (.bool (p a)))) : APureOn prog Γ 77 [rowAV 2 nl (l.map en), .fn g caps] σ (.val (.int .i64 (idxFrom p 0 l))) := by
  refine APureOn.of func77 rfl fun τ => ?_
  simp only [ntmps77, List.length_cons, List.length_nil, Nat.reduceAdd, Nat.reduceSub, List.replicate_succ, List.replicate_zero, List.cons_append, List.nil_append]
  have hp' : ∀ (i : Nat) (h : i < l.length), APureOn prog Γ g (en l[i] :: caps) (σ ++ τ) (.val (.bool (p l[i]))) := fun i h => (hp _ (List.getElem_mem h)).more τ
  generalize σ ++ τ = σ at hp' ⊢
  refine AW.regl false [4] (by rfl) fun K1 hK1 => ?_ -- region 0
  simp only [go_sem, Nat.reduceAdd, Nat.reduceEqDiff, Nat.reduceLeDiff, true_and, List.length_map, hen]
  refine hK1 _ _ ?_; try clear hK1 K1
  conv => enter [5]; simp only [setL_cons, setL_nil, List.set_cons_zero, List.set_cons_succ]
  refine AW.seq_k fun K2 hK2 => ?_
  refine AW.regl false [7, 8] (by rfl) fun K3 hK3 => ?_ -- region 1
  simp only [go_sem, Nat.reduceAdd, Nat.reduceEqDiff, Nat.reduceLeDiff, true_and, List.length_map, hen]
  refine hK3 _ _ ?_; try clear hK3 K3
  conv => enter [5]; simp only [setL_cons, setL_nil, List.set_cons_zero, List.set_cons_succ]
  refine AW.block ?_
  refine AW.loop_wk (α := Nat) (fun i => [(rowAV 2 nl (l.map en)), (.fn g caps), .any, .any, .any, .any, .any, (.val (.int .i64 (l.length : Nat))), (.val (.int .i64 (i : Nat))), .any, .any, .any, .any, .any, .any, .any, .any, .any, .any]) (fun i => σ) (fun i => l.length - i) (fun i => i ≤ l.length ∧ idxFrom p 0 l = idxFrom p i (l.drop i)) 0 ?_ ?_
  · exact ⟨⟨Nat.zero_le _, rfl⟩, by simp [Wk], rfl⟩
  · rintro i ⟨hi, hix⟩
    refine AW.regl false [9] (by rfl) fun K4 hK4 => ?_ -- region 2
    simp only [go_sem, Nat.reduceAdd, Nat.reduceEqDiff, Nat.reduceLeDiff, true_and, List.length_map, hen]
    refine hK4 _ _ ?_; try clear hK4 K4
    conv => enter [5]; simp only [setL_cons, setL_nil, List.set_cons_zero, List.set_cons_succ]
    refine AW.seq_k fun K5 hK5 => ?_
    refine AW.cond rfl (fun hc9 => ?_) (fun hc9 => ?_)
    · skip
      have hc9 : i < l.length := by simpa using hc9
      have hx : (l.map en)[i]? = some (en l[i]) := by simp [hc9]
      rw [idxFrom_drop p l i hc9] at hix
      refine AW.skip ?_
      refine hK5 _ _ ?_; try clear hK5 K5
      refine AW.seq_k fun K6 hK6 => ?_
      refine AW.block ?_
      refine AW.regl false [5] (by rfl) fun K7 hK7 => ?_ -- region 3
      simp only [go_sem, Nat.reduceAdd, Nat.reduceEqDiff, Nat.reduceLeDiff, true_and, List.length_map, hen]
      refine hK7 _ _ ?_; try clear hK7 K7
      conv => enter [5]; simp only [setL_cons, setL_nil, List.set_cons_zero, List.set_cons_succ]
      refine AW.regl false [16] (by rfl) fun K8 hK8 => ?_ -- region 4
      simp only [go_sem, Nat.reduceAdd, Nat.reduceEqDiff, Nat.reduceLeDiff, true_and, List.length_map, hen, at_row hx]
      refine sC.of hg (hp' i hc9).here (by rfl) ?_
      simp only [go_sem, Nat.reduceAdd, Nat.reduceEqDiff, Nat.reduceLeDiff, true_and, List.length_map, hen, at_row hx]
      refine hK8 _ _ ?_; try clear hK8 K8
      conv => enter [5]; simp only [setL_cons, setL_nil, List.set_cons_zero, List.set_cons_succ]
      refine AW.cond rfl (fun hc16 => ?_) (fun hc16 => ?_)
      · skip
        rw [if_pos hc16] at hix
        refine AW.regl false [4] (by rfl) fun K9 hK9 => ?_ -- region 5
        simp only [go_sem, Nat.reduceAdd, Nat.reduceEqDiff, Nat.reduceLeDiff, true_and, List.length_map, hen]
        refine hK9 _ _ ?_; try clear hK9 K9
        conv => enter [5]; simp only [setL_cons, setL_nil, List.set_cons_zero, List.set_cons_succ]
        refine AW.ret ⟨.inr rfl, _, rfl, by simp, ?_⟩ -- return 1
        refine frzI ?_
        exact hix.symm
      · skip
        rw [if_neg (ne_true_of_eq_false hc16)] at hix
        refine AW.skip ?_
        refine hK6 _ _ ?_; try clear hK6 K6
        refine AW.lastl false [8] (by rfl) fun K hK => ?_ -- region 6
        simp only [go_sem, Nat.reduceAdd, Nat.reduceEqDiff, Nat.reduceLeDiff, true_and, List.length_map, hen]
        refine hK _ _ fun env' hw => ?_
        simp only [setL_cons, setL_nil, List.set_cons_zero, List.set_cons_succ] at hw
        refine ⟨i + 1, by omega, ⟨by omega, hix⟩, ?_, rfl⟩
        refine hw.trans ?_
        simp [Wk, wrap_succ hc9 hl]
    · skip
      have hc : i = l.length := by have : ¬ i < l.length := by simpa using hc9
                                   omega
      refine AW.exit ?_
      refine hK2 _ _ ?_; try clear hK2 K2
      refine AW.regl false [4] (by rfl) fun K10 hK10 => ?_ -- region 7
      simp only [go_sem, Nat.reduceAdd, Nat.reduceEqDiff, Nat.reduceLeDiff, true_and, List.length_map, hen]
      refine hK10 _ _ ?_; try clear hK10 K10
      conv => enter [5]; simp only [setL_cons, setL_nil, List.set_cons_zero, List.set_cons_succ]
      refine AW.ret ⟨.inr rfl, _, rfl, by simp, ?_⟩ -- return 2
      refine frzI ?_
      rw [hix, hc, List.drop_length]
      rfl

set_option maxRecDepth 100000 in
theorem containsFunc64 {α : Type} (en : α → AV) (hen : ∀ a, aGet prog 86 (en a).cells = some (en a)) (nl : Bool) (l : List α) (hl : l.length ≤ maxLen) (g : FuncId) (hg : Enters prog g) (caps : List AV) (p : α → Bool) (σ : Sto) (hp : ∀ a ∈ l, APureOn prog Γ g (en a :: caps) σ (.val (.bool (p a)))) : APureOn prog Γ 64 [rowAV 2 nl (l.map en), .fn g caps] σ (.val (.bool (l.any p))) := by
  refine APureOn.of func64 rfl fun τ => ?_
  simp only [ntmps64, List.length_cons, List.length_nil, Nat.reduceAdd, Nat.reduceSub, List.replicate_succ, List.replicate_zero, List.cons_append, List.nil_append]
  have hi := (indexFunc77 en hen nl l hl g hg caps p σ hp).more τ
  generalize σ ++ τ = σ at hi ⊢
  refine AW.regl false [4] (by rfl) fun K1 hK1 => ?_ -- region 0
  simp only [go_sem, Nat.reduceAdd, Nat.reduceEqDiff, Nat.reduceLeDiff, true_and]
  refine hK1 _ _ ?_; try clear hK1 K1
  conv => enter [5]; simp only [setL_cons, setL_nil, List.set_cons_zero, List.set_cons_succ]
  refine AW.regl false [4] (by rfl) fun K2 hK2 => ?_ -- region 1
  simp only [go_sem, Nat.reduceAdd, Nat.reduceEqDiff, Nat.reduceLeDiff, true_and]
  refine sC.of en77 (hi).here (by rfl) ?_
  simp only [go_sem, Nat.reduceAdd, Nat.reduceEqDiff, Nat.reduceLeDiff, true_and]
  refine hK2 _ _ ?_; try clear hK2 K2
  conv => enter [5]; simp only [setL_cons, setL_nil, List.set_cons_zero, List.set_cons_succ]
  refine AW.ret ⟨.inr rfl, _, rfl, by simp, ?_⟩ -- return 1
  refine frzB ?_
  exact idxFrom_nonneg p l 0

set_option maxRecDepth 100000 in
theorem vars_calls (hΓ : Words Γ) (nl : Bool) (l : List VarM) (hl : varsOk l) : APure prog Γ 48 [rowAV 2 nl (l.map VarM.enc)] (.val (.bool (varsR l))) := by
  refine APure.of func48 rfl fun σ => ?_
  simp only [ntmps48, List.length_cons, List.length_nil, Nat.reduceAdd, Nat.reduceSub, List.replicate_succ, List.replicate_zero, List.cons_append, List.nil_append]
  have hl0 : l.length ≤ maxLen := by rw [maxLen_eq]; have := hl.1; omega
  refine AW.regl false [2] (by rfl) fun K1 hK1 => ?_ -- region 0
  simp only [go_sem, Nat.reduceAdd, Nat.reduceEqDiff, Nat.reduceLeDiff, true_and, ProgM.enc, NodeM.enc, EqM.enc, VarM.enc, enc_one, enc_len, enc_get43, enc_get47, eqc_get81, eqc_get128, List.length_map, List.length_cons, List.all_cons, one_row, len_row, ba_beqL]
  refine hK1 _ _ ?_; try clear hK1 K1
  conv => enter [5]; simp only [setL_cons, setL_nil, List.set_cons_zero, List.set_cons_succ]
  refine AW.regl false [3] (by rfl) fun K2 hK2 => ?_ -- region 1
  simp only [go_sem, Nat.reduceAdd, Nat.reduceEqDiff, Nat.reduceLeDiff, true_and, ProgM.enc, NodeM.enc, EqM.enc, VarM.enc, enc_one, enc_len, enc_get43, enc_get47, eqc_get81, eqc_get128, List.length_map, List.length_cons, List.all_cons, one_row, len_row, ba_beqL]
  refine hK2 _ _ ?_; try clear hK2 K2
  conv => enter [5]; simp only [setL_cons, setL_nil, List.set_cons_zero, List.set_cons_succ]
  refine AW.regtf false 2 (.val (.bool ((decide (((l.length : Nat) : Int) ≤ 1000)) && !((l.any VarM.wrong))))) (by rfl) ?_ ?_ -- region 2
  · skip
    cases h6 : ((decide (((l.length : Nat) : Int) ≤ 1000)))
    · skip
      simp only [go_sem, Nat.reduceAdd, Nat.reduceEqDiff, Nat.reduceLeDiff, true_and, ProgM.enc, NodeM.enc, EqM.enc, VarM.enc, enc_one, enc_len, enc_get43, enc_get47, eqc_get81, eqc_get128, List.length_map, List.length_cons, List.all_cons, one_row, len_row, ba_beqL, h6]
      try simp [upd_at, h6, ProgM.enc, NodeM.enc, EqM.enc, VarM.enc, enc_one, enc_len, enc_get43, enc_get47, eqc_get81, eqc_get128, List.length_map, List.length_cons, List.all_cons, one_row, len_row, ba_beqL]
    · skip
      simp only [go_sem, Nat.reduceAdd, Nat.reduceEqDiff, Nat.reduceLeDiff, true_and, ProgM.enc, NodeM.enc, EqM.enc, VarM.enc, enc_one, enc_len, enc_get43, enc_get47, eqc_get81, eqc_get128, List.length_map, List.length_cons, List.all_cons, one_row, len_row, ba_beqL, h6]
      refine sC.of en64 ((containsFunc64 VarM.enc var_get160 nl l hl0 63 en63 [] VarM.wrong σ (fun v hv => (wrong_calls hΓ v (hl.2 v hv)).on _))).here (by rfl) ?_
      simp only [go_sem, Nat.reduceAdd, Nat.reduceEqDiff, Nat.reduceLeDiff, true_and, ProgM.enc, NodeM.enc, EqM.enc, VarM.enc, enc_one, enc_len, enc_get43, enc_get47, eqc_get81, eqc_get128, List.length_map, List.length_cons, List.all_cons, one_row, len_row, ba_beqL, h6]
      try simp [upd_at, h6, ProgM.enc, NodeM.enc, EqM.enc, VarM.enc, enc_one, enc_len, enc_get43, enc_get47, eqc_get81, eqc_get128, List.length_map, List.length_cons, List.all_cons, one_row, len_row, ba_beqL]
  conv => enter [5]; simp only [List.set_cons_zero, List.set_cons_succ]
  refine AW.ret ⟨.inr rfl, _, rfl, by simp, ?_⟩ -- return 1
  refine frzB ?_
  rfl

set_option maxRecDepth 100000 in
theorem badname_calls (hΓ : Words Γ) (s : ByteArray) (hs : s.size ≤ 1000000000) : APure prog Γ 68 [.val (.string s)] (.val (.bool (!nameM s))) := by
  refine APure.of func68 rfl fun σ => ?_
  simp only [ntmps68, List.length_cons, List.length_nil, Nat.reduceAdd, Nat.reduceSub, List.replicate_succ, List.replicate_zero, List.cons_append, List.nil_append]
  refine AW.regl false [2] (by rfl) fun K1 hK1 => ?_ -- region 0
  simp only [go_sem, Nat.reduceAdd, Nat.reduceEqDiff, Nat.reduceLeDiff, true_and, ProgM.enc, NodeM.enc, EqM.enc, VarM.enc, enc_one, enc_len, enc_get43, enc_get47, eqc_get81, eqc_get128, List.length_map, List.length_cons, List.all_cons, one_row, len_row, ba_beqL]
  refine hK1 _ _ ?_; try clear hK1 K1
  conv => enter [5]; simp only [setL_cons, setL_nil, List.set_cons_zero, List.set_cons_succ]
  refine AW.regl false [2] (by rfl) fun K2 hK2 => ?_ -- region 1
  simp only [go_sem, Nat.reduceAdd, Nat.reduceEqDiff, Nat.reduceLeDiff, true_and, ProgM.enc, NodeM.enc, EqM.enc, VarM.enc, enc_one, enc_len, enc_get43, enc_get47, eqc_get81, eqc_get128, List.length_map, List.length_cons, List.all_cons, one_row, len_row, ba_beqL]
  refine sC.of en49 ((name_calls hΓ s (by first | assumption | omega)).on _).here (by rfl) ?_
  simp only [go_sem, Nat.reduceAdd, Nat.reduceEqDiff, Nat.reduceLeDiff, true_and, ProgM.enc, NodeM.enc, EqM.enc, VarM.enc, enc_one, enc_len, enc_get43, enc_get47, eqc_get81, eqc_get128, List.length_map, List.length_cons, List.all_cons, one_row, len_row, ba_beqL]
  refine hK2 _ _ ?_; try clear hK2 K2
  conv => enter [5]; simp only [setL_cons, setL_nil, List.set_cons_zero, List.set_cons_succ]
  refine AW.ret ⟨.inr rfl, _, rfl, by simp, ?_⟩ -- return 1
  refine frzB ?_
  rfl

set_option maxRecDepth 100000 in
theorem indexFunc78 {α : Type} (en : α → AV) (hen : ∀ a, aGet prog 9 (en a).cells = some (en a)) (nl : Bool) (l : List α) (hl : l.length ≤ maxLen) (g : FuncId) (hg : Enters prog g) (caps : List AV) (p : α → Bool) (σ : Sto) (hp : ∀ a ∈ l, APureOn prog Γ g (en a :: caps) σ (.val (.bool (p a)))) : APureOn prog Γ 78 [rowAV 1 nl (l.map en), .fn g caps] σ (.val (.int .i64 (idxFrom p 0 l))) := by
  refine APureOn.of func78 rfl fun τ => ?_
  simp only [ntmps78, List.length_cons, List.length_nil, Nat.reduceAdd, Nat.reduceSub, List.replicate_succ, List.replicate_zero, List.cons_append, List.nil_append]
  have hp' : ∀ (i : Nat) (h : i < l.length), APureOn prog Γ g (en l[i] :: caps) (σ ++ τ) (.val (.bool (p l[i]))) := fun i h => (hp _ (List.getElem_mem h)).more τ
  generalize σ ++ τ = σ at hp' ⊢
  refine AW.regl false [4] (by rfl) fun K1 hK1 => ?_ -- region 0
  simp only [go_sem, Nat.reduceAdd, Nat.reduceEqDiff, Nat.reduceLeDiff, true_and, List.length_map, hen]
  refine hK1 _ _ ?_; try clear hK1 K1
  conv => enter [5]; simp only [setL_cons, setL_nil, List.set_cons_zero, List.set_cons_succ]
  refine AW.seq_k fun K2 hK2 => ?_
  refine AW.regl false [7, 8] (by rfl) fun K3 hK3 => ?_ -- region 1
  simp only [go_sem, Nat.reduceAdd, Nat.reduceEqDiff, Nat.reduceLeDiff, true_and, List.length_map, hen]
  refine hK3 _ _ ?_; try clear hK3 K3
  conv => enter [5]; simp only [setL_cons, setL_nil, List.set_cons_zero, List.set_cons_succ]
  refine AW.block ?_
  refine AW.loop_wk (α := Nat) (fun i => [(rowAV 1 nl (l.map en)), (.fn g caps), .any, .any, .any, .any, .any, (.val (.int .i64 (l.length : Nat))), (.val (.int .i64 (i : Nat))), .any, .any, .any, .any, .any, .any, .any, .any, .any, .any]) (fun i => σ) (fun i => l.length - i) (fun i => i ≤ l.length ∧ idxFrom p 0 l = idxFrom p i (l.drop i)) 0 ?_ ?_
  · exact ⟨⟨Nat.zero_le _, rfl⟩, by simp [Wk], rfl⟩
  · rintro i ⟨hi, hix⟩
    refine AW.regl false [9] (by rfl) fun K4 hK4 => ?_ -- region 2
    simp only [go_sem, Nat.reduceAdd, Nat.reduceEqDiff, Nat.reduceLeDiff, true_and, List.length_map, hen]
    refine hK4 _ _ ?_; try clear hK4 K4
    conv => enter [5]; simp only [setL_cons, setL_nil, List.set_cons_zero, List.set_cons_succ]
    refine AW.seq_k fun K5 hK5 => ?_
    refine AW.cond rfl (fun hc9 => ?_) (fun hc9 => ?_)
    · skip
      have hc9 : i < l.length := by simpa using hc9
      have hx : (l.map en)[i]? = some (en l[i]) := by simp [hc9]
      rw [idxFrom_drop p l i hc9] at hix
      refine AW.skip ?_
      refine hK5 _ _ ?_; try clear hK5 K5
      refine AW.seq_k fun K6 hK6 => ?_
      refine AW.block ?_
      refine AW.regl false [5] (by rfl) fun K7 hK7 => ?_ -- region 3
      simp only [go_sem, Nat.reduceAdd, Nat.reduceEqDiff, Nat.reduceLeDiff, true_and, List.length_map, hen]
      refine hK7 _ _ ?_; try clear hK7 K7
      conv => enter [5]; simp only [setL_cons, setL_nil, List.set_cons_zero, List.set_cons_succ]
      refine AW.regl false [16] (by rfl) fun K8 hK8 => ?_ -- region 4
      simp only [go_sem, Nat.reduceAdd, Nat.reduceEqDiff, Nat.reduceLeDiff, true_and, List.length_map, hen, at_row hx]
      refine sC.of hg (hp' i hc9).here (by rfl) ?_
      simp only [go_sem, Nat.reduceAdd, Nat.reduceEqDiff, Nat.reduceLeDiff, true_and, List.length_map, hen, at_row hx]
      refine hK8 _ _ ?_; try clear hK8 K8
      conv => enter [5]; simp only [setL_cons, setL_nil, List.set_cons_zero, List.set_cons_succ]
      refine AW.cond rfl (fun hc16 => ?_) (fun hc16 => ?_)
      · skip
        rw [if_pos hc16] at hix
        refine AW.regl false [4] (by rfl) fun K9 hK9 => ?_ -- region 5
        simp only [go_sem, Nat.reduceAdd, Nat.reduceEqDiff, Nat.reduceLeDiff, true_and, List.length_map, hen]
        refine hK9 _ _ ?_; try clear hK9 K9
        conv => enter [5]; simp only [setL_cons, setL_nil, List.set_cons_zero, List.set_cons_succ]
        refine AW.ret ⟨.inr rfl, _, rfl, by simp, ?_⟩ -- return 1
        refine frzI ?_
        exact hix.symm
      · skip
        rw [if_neg (ne_true_of_eq_false hc16)] at hix
        refine AW.skip ?_
        refine hK6 _ _ ?_; try clear hK6 K6
        refine AW.lastl false [8] (by rfl) fun K hK => ?_ -- region 6
        simp only [go_sem, Nat.reduceAdd, Nat.reduceEqDiff, Nat.reduceLeDiff, true_and, List.length_map, hen]
        refine hK _ _ fun env' hw => ?_
        simp only [setL_cons, setL_nil, List.set_cons_zero, List.set_cons_succ] at hw
        refine ⟨i + 1, by omega, ⟨by omega, hix⟩, ?_, rfl⟩
        refine hw.trans ?_
        simp [Wk, wrap_succ hc9 hl]
    · skip
      have hc : i = l.length := by have : ¬ i < l.length := by simpa using hc9
                                   omega
      refine AW.exit ?_
      refine hK2 _ _ ?_; try clear hK2 K2
      refine AW.regl false [4] (by rfl) fun K10 hK10 => ?_ -- region 7
      simp only [go_sem, Nat.reduceAdd, Nat.reduceEqDiff, Nat.reduceLeDiff, true_and, List.length_map, hen]
      refine hK10 _ _ ?_; try clear hK10 K10
      conv => enter [5]; simp only [setL_cons, setL_nil, List.set_cons_zero, List.set_cons_succ]
      refine AW.ret ⟨.inr rfl, _, rfl, by simp, ?_⟩ -- return 2
      refine frzI ?_
      rw [hix, hc, List.drop_length]
      rfl

set_option maxRecDepth 100000 in
theorem containsFunc67 {α : Type} (en : α → AV) (hen : ∀ a, aGet prog 9 (en a).cells = some (en a)) (nl : Bool) (l : List α) (hl : l.length ≤ maxLen) (g : FuncId) (hg : Enters prog g) (caps : List AV) (p : α → Bool) (σ : Sto) (hp : ∀ a ∈ l, APureOn prog Γ g (en a :: caps) σ (.val (.bool (p a)))) : APureOn prog Γ 67 [rowAV 1 nl (l.map en), .fn g caps] σ (.val (.bool (l.any p))) := by
  refine APureOn.of func67 rfl fun τ => ?_
  simp only [ntmps67, List.length_cons, List.length_nil, Nat.reduceAdd, Nat.reduceSub, List.replicate_succ, List.replicate_zero, List.cons_append, List.nil_append]
  have hi := (indexFunc78 en hen nl l hl g hg caps p σ hp).more τ
  generalize σ ++ τ = σ at hi ⊢
  refine AW.regl false [4] (by rfl) fun K1 hK1 => ?_ -- region 0
  simp only [go_sem, Nat.reduceAdd, Nat.reduceEqDiff, Nat.reduceLeDiff, true_and]
  refine hK1 _ _ ?_; try clear hK1 K1
  conv => enter [5]; simp only [setL_cons, setL_nil, List.set_cons_zero, List.set_cons_succ]
  refine AW.regl false [4] (by rfl) fun K2 hK2 => ?_ -- region 1
  simp only [go_sem, Nat.reduceAdd, Nat.reduceEqDiff, Nat.reduceLeDiff, true_and]
  refine sC.of en78 (hi).here (by rfl) ?_
  simp only [go_sem, Nat.reduceAdd, Nat.reduceEqDiff, Nat.reduceLeDiff, true_and]
  refine hK2 _ _ ?_; try clear hK2 K2
  conv => enter [5]; simp only [setL_cons, setL_nil, List.set_cons_zero, List.set_cons_succ]
  refine AW.ret ⟨.inr rfl, _, rfl, by simp, ?_⟩ -- return 1
  refine frzB ?_
  exact idxFrom_nonneg p l 0

set_option maxRecDepth 100000 in
theorem eqright_calls (hΓ : Words Γ) (q : EqM) (hok : q.ok) : APure prog Γ 52 [EqM.enc q] (.val (.bool q.right)) := by
  refine APure.of func52 rfl fun σ => ?_
  simp only [ntmps52, List.length_cons, List.length_nil, Nat.reduceAdd, Nat.reduceSub, List.replicate_succ, List.replicate_zero, List.cons_append, List.nil_append]
  have hl0 : q.lhs.length ≤ maxLen := by rw [maxLen_eq]; have := hok.1.1; omega
  have hrx : APure prog Γ 28 [q.rhs.enc] (bool (exprR q.rhs)) := by
    have := right_calls hΓ q.rhs (by have := hok.2.1; omega) hok.2.2
    rwa [← shape_pre] at this
  refine AW.regl false [1, 2] (by rfl) fun K1 hK1 => ?_ -- region 0
  simp only [go_sem, Nat.reduceAdd, Nat.reduceEqDiff, Nat.reduceLeDiff, true_and, ProgM.enc, NodeM.enc, EqM.enc, VarM.enc, enc_one, enc_len, enc_get43, enc_get47, eqc_get81, eqc_get128, List.length_map, List.length_cons, List.all_cons, one_row, len_row, ba_beqL, List.drop_succ_cons, List.drop_zero]
  refine hK1 _ _ ?_; try clear hK1 K1
  conv => enter [5]; simp only [setL_cons, setL_nil, List.set_cons_zero, List.set_cons_succ]
  refine AW.regcuts fun K2 hK2 => ?_ -- region 1
  refine AOps.cut false 10 12 (.val (.bool ((decide (((q.lhs.length : Nat) : Int) ≥ 1)) && (decide (((q.lhs.length : Nat) : Int) ≤ 1000))))) (by rfl) ?_ ?_
  · skip
    cases h6 : ((decide (((q.lhs.length : Nat) : Int) ≥ 1)))
    · skip
      simp only [go_sem, Nat.reduceAdd, Nat.reduceEqDiff, Nat.reduceLeDiff, true_and, ProgM.enc, NodeM.enc, EqM.enc, VarM.enc, enc_one, enc_len, enc_get43, enc_get47, eqc_get81, eqc_get128, List.length_map, List.length_cons, List.all_cons, one_row, len_row, ba_beqL, List.drop_succ_cons, List.drop_zero, List.take_succ_cons, List.take_zero, h6]
      try simp [upd_at, h6, ProgM.enc, NodeM.enc, EqM.enc, VarM.enc, enc_one, enc_len, enc_get43, enc_get47, eqc_get81, eqc_get128, List.length_map, List.length_cons, List.all_cons, one_row, len_row, ba_beqL, List.drop_succ_cons, List.drop_zero]
    · skip
      simp only [go_sem, Nat.reduceAdd, Nat.reduceEqDiff, Nat.reduceLeDiff, true_and, ProgM.enc, NodeM.enc, EqM.enc, VarM.enc, enc_one, enc_len, enc_get43, enc_get47, eqc_get81, eqc_get128, List.length_map, List.length_cons, List.all_cons, one_row, len_row, ba_beqL, List.drop_succ_cons, List.drop_zero, List.take_succ_cons, List.take_zero, h6]
      try simp [upd_at, h6, ProgM.enc, NodeM.enc, EqM.enc, VarM.enc, enc_one, enc_len, enc_get43, enc_get47, eqc_get81, eqc_get128, List.length_map, List.length_cons, List.all_cons, one_row, len_row, ba_beqL, List.drop_succ_cons, List.drop_zero]
  simp only [List.drop_succ_cons, List.drop_zero, List.set_cons_zero, List.set_cons_succ]
  refine AOps.cut false 6 18 (.val (.bool (((decide (((q.lhs.length : Nat) : Int) ≥ 1)) && (decide (((q.lhs.length : Nat) : Int) ≤ 1000))) && !((q.lhs.any fun s => !nameM s))))) (by rfl) ?_ ?_
  · skip
    cases h12 : (((decide (((q.lhs.length : Nat) : Int) ≥ 1)) && (decide (((q.lhs.length : Nat) : Int) ≤ 1000))))
    · skip
      simp only [go_sem, Nat.reduceAdd, Nat.reduceEqDiff, Nat.reduceLeDiff, true_and, ProgM.enc, NodeM.enc, EqM.enc, VarM.enc, enc_one, enc_len, enc_get43, enc_get47, eqc_get81, eqc_get128, List.length_map, List.length_cons, List.all_cons, one_row, len_row, ba_beqL, List.drop_succ_cons, List.drop_zero, List.take_succ_cons, List.take_zero, h12]
      try simp [upd_at, h12, ProgM.enc, NodeM.enc, EqM.enc, VarM.enc, enc_one, enc_len, enc_get43, enc_get47, eqc_get81, eqc_get128, List.length_map, List.length_cons, List.all_cons, one_row, len_row, ba_beqL, List.drop_succ_cons, List.drop_zero]
    · skip
      simp only [go_sem, Nat.reduceAdd, Nat.reduceEqDiff, Nat.reduceLeDiff, true_and, ProgM.enc, NodeM.enc, EqM.enc, VarM.enc, enc_one, enc_len, enc_get43, enc_get47, eqc_get81, eqc_get128, List.length_map, List.length_cons, List.all_cons, one_row, len_row, ba_beqL, List.drop_succ_cons, List.drop_zero, List.take_succ_cons, List.take_zero, h12]
      refine sC.of en67 ((containsFunc67 str str_get9 q.nl q.lhs hl0 68 en68 [] (fun s => !nameM s) _ (fun s hs => (badname_calls hΓ s (by have := hok.1.2 s hs; omega)).on _))).here (by rfl) ?_
      simp only [go_sem, Nat.reduceAdd, Nat.reduceEqDiff, Nat.reduceLeDiff, true_and, ProgM.enc, NodeM.enc, EqM.enc, VarM.enc, enc_one, enc_len, enc_get43, enc_get47, eqc_get81, eqc_get128, List.length_map, List.length_cons, List.all_cons, one_row, len_row, ba_beqL, List.drop_succ_cons, List.drop_zero, List.take_succ_cons, List.take_zero, h12]
      try simp [upd_at, h12, ProgM.enc, NodeM.enc, EqM.enc, VarM.enc, enc_one, enc_len, enc_get43, enc_get47, eqc_get81, eqc_get128, List.length_map, List.length_cons, List.all_cons, one_row, len_row, ba_beqL, List.drop_succ_cons, List.drop_zero]
  simp only [List.drop_succ_cons, List.drop_zero, List.set_cons_zero, List.set_cons_succ]
  refine AOps.cut false 6 2 (.val (.bool ((((decide (((q.lhs.length : Nat) : Int) ≥ 1)) && (decide (((q.lhs.length : Nat) : Int) ≤ 1000))) && !((q.lhs.any fun s => !nameM s))) && (exprR q.rhs)))) (by rfl) ?_ ?_
  · skip
    cases h18 : ((((decide (((q.lhs.length : Nat) : Int) ≥ 1)) && (decide (((q.lhs.length : Nat) : Int) ≤ 1000))) && !((q.lhs.any fun s => !nameM s))))
    · skip
      simp only [go_sem, Nat.reduceAdd, Nat.reduceEqDiff, Nat.reduceLeDiff, true_and, ProgM.enc, NodeM.enc, EqM.enc, VarM.enc, enc_one, enc_len, enc_get43, enc_get47, eqc_get81, eqc_get128, List.length_map, List.length_cons, List.all_cons, one_row, len_row, ba_beqL, List.drop_succ_cons, List.drop_zero, List.take_succ_cons, List.take_zero, h18]
      try simp [upd_at, h18, ProgM.enc, NodeM.enc, EqM.enc, VarM.enc, enc_one, enc_len, enc_get43, enc_get47, eqc_get81, eqc_get128, List.length_map, List.length_cons, List.all_cons, one_row, len_row, ba_beqL, List.drop_succ_cons, List.drop_zero]
    · skip
      simp only [go_sem, Nat.reduceAdd, Nat.reduceEqDiff, Nat.reduceLeDiff, true_and, ProgM.enc, NodeM.enc, EqM.enc, VarM.enc, enc_one, enc_len, enc_get43, enc_get47, eqc_get81, eqc_get128, List.length_map, List.length_cons, List.all_cons, one_row, len_row, ba_beqL, List.drop_succ_cons, List.drop_zero, List.take_succ_cons, List.take_zero, h18]
      refine sC.of en28 (hrx.on _).here (by rfl) ?_
      simp only [go_sem, Nat.reduceAdd, Nat.reduceEqDiff, Nat.reduceLeDiff, true_and, ProgM.enc, NodeM.enc, EqM.enc, VarM.enc, enc_one, enc_len, enc_get43, enc_get47, eqc_get81, eqc_get128, List.length_map, List.length_cons, List.all_cons, one_row, len_row, ba_beqL, List.drop_succ_cons, List.drop_zero, List.take_succ_cons, List.take_zero, h18]
      try simp [upd_at, h18, ProgM.enc, NodeM.enc, EqM.enc, VarM.enc, enc_one, enc_len, enc_get43, enc_get47, eqc_get81, eqc_get128, List.length_map, List.length_cons, List.all_cons, one_row, len_row, ba_beqL, List.drop_succ_cons, List.drop_zero]
  simp only [List.drop_succ_cons, List.drop_zero, List.set_cons_zero, List.set_cons_succ]
  refine AOps.nil (hK2 _ _ ?_); try clear hK2 K2
  refine AW.ret ⟨.inr rfl, _, rfl, by simp, ?_⟩ -- return 1
  refine frzB ?_
  rfl

set_option maxRecDepth 100000 in
theorem eqwrong_calls (hΓ : Words Γ) (q : EqM) (hok : q.ok) : APure prog Γ 51 [EqM.enc q] (.val (.bool !q.right)) := by
  refine APure.of func51 rfl fun σ => ?_
  simp only [ntmps51, List.length_cons, List.length_nil, Nat.reduceAdd, Nat.reduceSub, List.replicate_succ, List.replicate_zero, List.cons_append, List.nil_append]
  refine AW.regl false [1, 2] (by rfl) fun K1 hK1 => ?_ -- region 0
  simp only [go_sem, Nat.reduceAdd, Nat.reduceEqDiff, Nat.reduceLeDiff, true_and, ProgM.enc, NodeM.enc, EqM.enc, VarM.enc, enc_one, enc_len, enc_get43, enc_get47, eqc_get81, eqc_get128, List.length_map, List.length_cons, List.all_cons, one_row, len_row, ba_beqL]
  refine hK1 _ _ ?_; try clear hK1 K1
  conv => enter [5]; simp only [setL_cons, setL_nil, List.set_cons_zero, List.set_cons_succ]
  refine AW.regl false [2] (by rfl) fun K2 hK2 => ?_ -- region 1
  simp only [go_sem, Nat.reduceAdd, Nat.reduceEqDiff, Nat.reduceLeDiff, true_and, ProgM.enc, NodeM.enc, EqM.enc, VarM.enc, enc_one, enc_len, enc_get43, enc_get47, eqc_get81, eqc_get128, List.length_map, List.length_cons, List.all_cons, one_row, len_row, ba_beqL]
  refine sC.of en52 ((eqright_calls hΓ q hok).on _).here (by rfl) ?_
  simp only [go_sem, Nat.reduceAdd, Nat.reduceEqDiff, Nat.reduceLeDiff, true_and, ProgM.enc, NodeM.enc, EqM.enc, VarM.enc, enc_one, enc_len, enc_get43, enc_get47, eqc_get81, eqc_get128, List.length_map, List.length_cons, List.all_cons, one_row, len_row, ba_beqL]
  refine hK2 _ _ ?_; try clear hK2 K2
  conv => enter [5]; simp only [setL_cons, setL_nil, List.set_cons_zero, List.set_cons_succ]
  refine AW.ret ⟨.inr rfl, _, rfl, by simp, ?_⟩ -- return 1
  refine frzB ?_
  rfl

set_option maxRecDepth 100000 in
theorem indexFunc66 {α : Type} (en : α → AV) (hen : ∀ a, aGet prog 68 (en a).cells = some (en a)) (nl : Bool) (l : List α) (hl : l.length ≤ maxLen) (g : FuncId) (hg : Enters prog g) (caps : List AV) (p : α → Bool) (σ : Sto) (hp : ∀ a ∈ l, APureOn prog Γ g (en a :: caps) σ (.val (.bool (p a)))) : APureOn prog Γ 66 [rowAV 6 nl (l.map en), .fn g caps] σ (.val (.int .i64 (idxFrom p 0 l))) := by
  refine APureOn.of func66 rfl fun τ => ?_
  simp only [ntmps66, List.length_cons, List.length_nil, Nat.reduceAdd, Nat.reduceSub, List.replicate_succ, List.replicate_zero, List.cons_append, List.nil_append]
  have hp' : ∀ (i : Nat) (h : i < l.length), APureOn prog Γ g (en l[i] :: caps) (σ ++ τ) (.val (.bool (p l[i]))) := fun i h => (hp _ (List.getElem_mem h)).more τ
  generalize σ ++ τ = σ at hp' ⊢
  refine AW.regl false [4] (by rfl) fun K1 hK1 => ?_ -- region 0
  simp only [go_sem, Nat.reduceAdd, Nat.reduceEqDiff, Nat.reduceLeDiff, true_and, List.length_map, hen]
  refine hK1 _ _ ?_; try clear hK1 K1
  conv => enter [5]; simp only [setL_cons, setL_nil, List.set_cons_zero, List.set_cons_succ]
  refine AW.seq_k fun K2 hK2 => ?_
  refine AW.regl false [7, 8] (by rfl) fun K3 hK3 => ?_ -- region 1
  simp only [go_sem, Nat.reduceAdd, Nat.reduceEqDiff, Nat.reduceLeDiff, true_and, List.length_map, hen]
  refine hK3 _ _ ?_; try clear hK3 K3
  conv => enter [5]; simp only [setL_cons, setL_nil, List.set_cons_zero, List.set_cons_succ]
  refine AW.block ?_
  refine AW.loop_wk (α := Nat) (fun i => [(rowAV 6 nl (l.map en)), (.fn g caps), .any, .any, .any, .any, .any, (.val (.int .i64 (l.length : Nat))), (.val (.int .i64 (i : Nat))), .any, .any, .any, .any, .any, .any, .any, .any, .any, .any]) (fun i => σ) (fun i => l.length - i) (fun i => i ≤ l.length ∧ idxFrom p 0 l = idxFrom p i (l.drop i)) 0 ?_ ?_
  · exact ⟨⟨Nat.zero_le _, rfl⟩, by simp [Wk], rfl⟩
  · rintro i ⟨hi, hix⟩
    refine AW.regl false [9] (by rfl) fun K4 hK4 => ?_ -- region 2
    simp only [go_sem, Nat.reduceAdd, Nat.reduceEqDiff, Nat.reduceLeDiff, true_and, List.length_map, hen]
    refine hK4 _ _ ?_; try clear hK4 K4
    conv => enter [5]; simp only [setL_cons, setL_nil, List.set_cons_zero, List.set_cons_succ]
    refine AW.seq_k fun K5 hK5 => ?_
    refine AW.cond rfl (fun hc9 => ?_) (fun hc9 => ?_)
    · skip
      have hc9 : i < l.length := by simpa using hc9
      have hx : (l.map en)[i]? = some (en l[i]) := by simp [hc9]
      rw [idxFrom_drop p l i hc9] at hix
      refine AW.skip ?_
      refine hK5 _ _ ?_; try clear hK5 K5
      refine AW.seq_k fun K6 hK6 => ?_
      refine AW.block ?_
      refine AW.regl false [5] (by rfl) fun K7 hK7 => ?_ -- region 3
      simp only [go_sem, Nat.reduceAdd, Nat.reduceEqDiff, Nat.reduceLeDiff, true_and, List.length_map, hen]
      refine hK7 _ _ ?_; try clear hK7 K7
      conv => enter [5]; simp only [setL_cons, setL_nil, List.set_cons_zero, List.set_cons_succ]
      refine AW.regl false [16] (by rfl) fun K8 hK8 => ?_ -- region 4
      simp only [go_sem, Nat.reduceAdd, Nat.reduceEqDiff, Nat.reduceLeDiff, true_and, List.length_map, hen, at_row hx]
      refine sC.of hg (hp' i hc9).here (by rfl) ?_
      simp only [go_sem, Nat.reduceAdd, Nat.reduceEqDiff, Nat.reduceLeDiff, true_and, List.length_map, hen, at_row hx]
      refine hK8 _ _ ?_; try clear hK8 K8
      conv => enter [5]; simp only [setL_cons, setL_nil, List.set_cons_zero, List.set_cons_succ]
      refine AW.cond rfl (fun hc16 => ?_) (fun hc16 => ?_)
      · skip
        rw [if_pos hc16] at hix
        refine AW.regl false [4] (by rfl) fun K9 hK9 => ?_ -- region 5
        simp only [go_sem, Nat.reduceAdd, Nat.reduceEqDiff, Nat.reduceLeDiff, true_and, List.length_map, hen]
        refine hK9 _ _ ?_; try clear hK9 K9
        conv => enter [5]; simp only [setL_cons, setL_nil, List.set_cons_zero, List.set_cons_succ]
        refine AW.ret ⟨.inr rfl, _, rfl, by simp, ?_⟩ -- return 1
        refine frzI ?_
        exact hix.symm
      · skip
        rw [if_neg (ne_true_of_eq_false hc16)] at hix
        refine AW.skip ?_
        refine hK6 _ _ ?_; try clear hK6 K6
        refine AW.lastl false [8] (by rfl) fun K hK => ?_ -- region 6
        simp only [go_sem, Nat.reduceAdd, Nat.reduceEqDiff, Nat.reduceLeDiff, true_and, List.length_map, hen]
        refine hK _ _ fun env' hw => ?_
        simp only [setL_cons, setL_nil, List.set_cons_zero, List.set_cons_succ] at hw
        refine ⟨i + 1, by omega, ⟨by omega, hix⟩, ?_, rfl⟩
        refine hw.trans ?_
        simp [Wk, wrap_succ hc9 hl]
    · skip
      have hc : i = l.length := by have : ¬ i < l.length := by simpa using hc9
                                   omega
      refine AW.exit ?_
      refine hK2 _ _ ?_; try clear hK2 K2
      refine AW.regl false [4] (by rfl) fun K10 hK10 => ?_ -- region 7
      simp only [go_sem, Nat.reduceAdd, Nat.reduceEqDiff, Nat.reduceLeDiff, true_and, List.length_map, hen]
      refine hK10 _ _ ?_; try clear hK10 K10
      conv => enter [5]; simp only [setL_cons, setL_nil, List.set_cons_zero, List.set_cons_succ]
      refine AW.ret ⟨.inr rfl, _, rfl, by simp, ?_⟩ -- return 2
      refine frzI ?_
      rw [hix, hc, List.drop_length]
      rfl

set_option maxRecDepth 100000 in
theorem containsFunc50 {α : Type} (en : α → AV) (hen : ∀ a, aGet prog 68 (en a).cells = some (en a)) (nl : Bool) (l : List α) (hl : l.length ≤ maxLen) (g : FuncId) (hg : Enters prog g) (caps : List AV) (p : α → Bool) (σ : Sto) (hp : ∀ a ∈ l, APureOn prog Γ g (en a :: caps) σ (.val (.bool (p a)))) : APureOn prog Γ 50 [rowAV 6 nl (l.map en), .fn g caps] σ (.val (.bool (l.any p))) := by
  refine APureOn.of func50 rfl fun τ => ?_
  simp only [ntmps50, List.length_cons, List.length_nil, Nat.reduceAdd, Nat.reduceSub, List.replicate_succ, List.replicate_zero, List.cons_append, List.nil_append]
  have hi := (indexFunc66 en hen nl l hl g hg caps p σ hp).more τ
  generalize σ ++ τ = σ at hi ⊢
  refine AW.regl false [4] (by rfl) fun K1 hK1 => ?_ -- region 0
  simp only [go_sem, Nat.reduceAdd, Nat.reduceEqDiff, Nat.reduceLeDiff, true_and]
  refine hK1 _ _ ?_; try clear hK1 K1
  conv => enter [5]; simp only [setL_cons, setL_nil, List.set_cons_zero, List.set_cons_succ]
  refine AW.regl false [4] (by rfl) fun K2 hK2 => ?_ -- region 1
  simp only [go_sem, Nat.reduceAdd, Nat.reduceEqDiff, Nat.reduceLeDiff, true_and]
  refine sC.of en66 (hi).here (by rfl) ?_
  simp only [go_sem, Nat.reduceAdd, Nat.reduceEqDiff, Nat.reduceLeDiff, true_and]
  refine hK2 _ _ ?_; try clear hK2 K2
  conv => enter [5]; simp only [setL_cons, setL_nil, List.set_cons_zero, List.set_cons_succ]
  refine AW.ret ⟨.inr rfl, _, rfl, by simp, ?_⟩ -- return 1
  refine frzB ?_
  exact idxFrom_nonneg p l 0

set_option maxRecDepth 100000 in
theorem nright_calls (hΓ : Words Γ) (n : NodeM) (hok : n.ok) : APure prog Γ 33 [NodeM.enc n] (.val (.bool n.right)) := by
  refine APure.of func33 rfl fun σ => ?_
  simp only [ntmps33, List.length_cons, List.length_nil, Nat.reduceAdd, Nat.reduceSub, List.replicate_succ, List.replicate_zero, List.cons_append, List.nil_append]
  have hn0 : n.name.size ≤ 1000000000 := by have := hok.1; omega
  have hl0 : n.eqs.length ≤ maxLen := by rw [maxLen_eq]; have := hok.2.2.2.2.1; omega
  refine AW.regl false [1, 2] (by rfl) fun K1 hK1 => ?_ -- region 0
  simp only [go_sem, Nat.reduceAdd, Nat.reduceEqDiff, Nat.reduceLeDiff, true_and, ProgM.enc, NodeM.enc, EqM.enc, VarM.enc, enc_one, enc_len, enc_get43, enc_get47, eqc_get81, eqc_get128, List.length_map, List.length_cons, List.all_cons, one_row, len_row, ba_beqL, List.drop_succ_cons, List.drop_zero]
  refine hK1 _ _ ?_; try clear hK1 K1
  conv => enter [5]; simp only [setL_cons, setL_nil, List.set_cons_zero, List.set_cons_succ]
  refine AW.regcuts fun K2 hK2 => ?_ -- region 1
  refine AOps.cut false 8 11 (.val (.bool ((varsR n.ins) && (varsR n.outs)))) (by rfl) ?_ ?_
  · skip
    cases h6 : ((varsR n.ins))
    · skip
      simp only [go_sem, Nat.reduceAdd, Nat.reduceEqDiff, Nat.reduceLeDiff, true_and, ProgM.enc, NodeM.enc, EqM.enc, VarM.enc, enc_one, enc_len, enc_get43, enc_get47, eqc_get81, eqc_get128, List.length_map, List.length_cons, List.all_cons, one_row, len_row, ba_beqL, List.drop_succ_cons, List.drop_zero, List.take_succ_cons, List.take_zero, h6]
      refine sC.of en48 ((vars_calls hΓ n.nlI n.ins (by first | exact hok.2.1 | exact hok.2.2.1 | exact hok.2.2.2.1)).on _).here (by rfl) ?_
      simp only [go_sem, Nat.reduceAdd, Nat.reduceEqDiff, Nat.reduceLeDiff, true_and, ProgM.enc, NodeM.enc, EqM.enc, VarM.enc, enc_one, enc_len, enc_get43, enc_get47, eqc_get81, eqc_get128, List.length_map, List.length_cons, List.all_cons, one_row, len_row, ba_beqL, List.drop_succ_cons, List.drop_zero, List.take_succ_cons, List.take_zero, h6]
      try simp [upd_at, h6, ProgM.enc, NodeM.enc, EqM.enc, VarM.enc, enc_one, enc_len, enc_get43, enc_get47, eqc_get81, eqc_get128, List.length_map, List.length_cons, List.all_cons, one_row, len_row, ba_beqL, List.drop_succ_cons, List.drop_zero]
    · skip
      simp only [go_sem, Nat.reduceAdd, Nat.reduceEqDiff, Nat.reduceLeDiff, true_and, ProgM.enc, NodeM.enc, EqM.enc, VarM.enc, enc_one, enc_len, enc_get43, enc_get47, eqc_get81, eqc_get128, List.length_map, List.length_cons, List.all_cons, one_row, len_row, ba_beqL, List.drop_succ_cons, List.drop_zero, List.take_succ_cons, List.take_zero, h6]
      refine sC.of en48 ((vars_calls hΓ n.nlI n.ins (by first | exact hok.2.1 | exact hok.2.2.1 | exact hok.2.2.2.1)).on _).here (by rfl) ?_
      simp only [go_sem, Nat.reduceAdd, Nat.reduceEqDiff, Nat.reduceLeDiff, true_and, ProgM.enc, NodeM.enc, EqM.enc, VarM.enc, enc_one, enc_len, enc_get43, enc_get47, eqc_get81, eqc_get128, List.length_map, List.length_cons, List.all_cons, one_row, len_row, ba_beqL, List.drop_succ_cons, List.drop_zero, List.take_succ_cons, List.take_zero, h6]
      refine sC.of en48 ((vars_calls hΓ n.nlO n.outs (by first | exact hok.2.1 | exact hok.2.2.1 | exact hok.2.2.2.1)).on _).here (by rfl) ?_
      simp only [go_sem, Nat.reduceAdd, Nat.reduceEqDiff, Nat.reduceLeDiff, true_and, ProgM.enc, NodeM.enc, EqM.enc, VarM.enc, enc_one, enc_len, enc_get43, enc_get47, eqc_get81, eqc_get128, List.length_map, List.length_cons, List.all_cons, one_row, len_row, ba_beqL, List.drop_succ_cons, List.drop_zero, List.take_succ_cons, List.take_zero, h6]
      try simp [upd_at, h6, ProgM.enc, NodeM.enc, EqM.enc, VarM.enc, enc_one, enc_len, enc_get43, enc_get47, eqc_get81, eqc_get128, List.length_map, List.length_cons, List.all_cons, one_row, len_row, ba_beqL, List.drop_succ_cons, List.drop_zero]
  simp only [List.drop_succ_cons, List.drop_zero, List.set_cons_zero, List.set_cons_succ]
  refine AOps.cut false 6 17 (.val (.bool (((varsR n.ins) && (varsR n.outs)) && (decide (((n.outs.length : Nat) : Int) ≥ 1))))) (by rfl) ?_ ?_
  · skip
    cases h11 : (((varsR n.ins) && (varsR n.outs)))
    · skip
      simp only [go_sem, Nat.reduceAdd, Nat.reduceEqDiff, Nat.reduceLeDiff, true_and, ProgM.enc, NodeM.enc, EqM.enc, VarM.enc, enc_one, enc_len, enc_get43, enc_get47, eqc_get81, eqc_get128, List.length_map, List.length_cons, List.all_cons, one_row, len_row, ba_beqL, List.drop_succ_cons, List.drop_zero, List.take_succ_cons, List.take_zero, h11]
      try simp [upd_at, h11, ProgM.enc, NodeM.enc, EqM.enc, VarM.enc, enc_one, enc_len, enc_get43, enc_get47, eqc_get81, eqc_get128, List.length_map, List.length_cons, List.all_cons, one_row, len_row, ba_beqL, List.drop_succ_cons, List.drop_zero]
    · skip
      simp only [go_sem, Nat.reduceAdd, Nat.reduceEqDiff, Nat.reduceLeDiff, true_and, ProgM.enc, NodeM.enc, EqM.enc, VarM.enc, enc_one, enc_len, enc_get43, enc_get47, eqc_get81, eqc_get128, List.length_map, List.length_cons, List.all_cons, one_row, len_row, ba_beqL, List.drop_succ_cons, List.drop_zero, List.take_succ_cons, List.take_zero, h11]
      try simp [upd_at, h11, ProgM.enc, NodeM.enc, EqM.enc, VarM.enc, enc_one, enc_len, enc_get43, enc_get47, eqc_get81, eqc_get128, List.length_map, List.length_cons, List.all_cons, one_row, len_row, ba_beqL, List.drop_succ_cons, List.drop_zero]
  simp only [List.drop_succ_cons, List.drop_zero, List.set_cons_zero, List.set_cons_succ]
  refine AOps.cut false 6 3 (.val (.bool ((((varsR n.ins) && (varsR n.outs)) && (decide (((n.outs.length : Nat) : Int) ≥ 1))) && (varsR n.locals)))) (by rfl) ?_ ?_
  · skip
    cases h17 : ((((varsR n.ins) && (varsR n.outs)) && (decide (((n.outs.length : Nat) : Int) ≥ 1))))
    · skip
      simp only [go_sem, Nat.reduceAdd, Nat.reduceEqDiff, Nat.reduceLeDiff, true_and, ProgM.enc, NodeM.enc, EqM.enc, VarM.enc, enc_one, enc_len, enc_get43, enc_get47, eqc_get81, eqc_get128, List.length_map, List.length_cons, List.all_cons, one_row, len_row, ba_beqL, List.drop_succ_cons, List.drop_zero, List.take_succ_cons, List.take_zero, h17]
      try simp [upd_at, h17, ProgM.enc, NodeM.enc, EqM.enc, VarM.enc, enc_one, enc_len, enc_get43, enc_get47, eqc_get81, eqc_get128, List.length_map, List.length_cons, List.all_cons, one_row, len_row, ba_beqL, List.drop_succ_cons, List.drop_zero]
    · skip
      simp only [go_sem, Nat.reduceAdd, Nat.reduceEqDiff, Nat.reduceLeDiff, true_and, ProgM.enc, NodeM.enc, EqM.enc, VarM.enc, enc_one, enc_len, enc_get43, enc_get47, eqc_get81, eqc_get128, List.length_map, List.length_cons, List.all_cons, one_row, len_row, ba_beqL, List.drop_succ_cons, List.drop_zero, List.take_succ_cons, List.take_zero, h17]
      refine sC.of en48 ((vars_calls hΓ n.nlL n.locals (by first | exact hok.2.1 | exact hok.2.2.1 | exact hok.2.2.2.1)).on _).here (by rfl) ?_
      simp only [go_sem, Nat.reduceAdd, Nat.reduceEqDiff, Nat.reduceLeDiff, true_and, ProgM.enc, NodeM.enc, EqM.enc, VarM.enc, enc_one, enc_len, enc_get43, enc_get47, eqc_get81, eqc_get128, List.length_map, List.length_cons, List.all_cons, one_row, len_row, ba_beqL, List.drop_succ_cons, List.drop_zero, List.take_succ_cons, List.take_zero, h17]
      try simp [upd_at, h17, ProgM.enc, NodeM.enc, EqM.enc, VarM.enc, enc_one, enc_len, enc_get43, enc_get47, eqc_get81, eqc_get128, List.length_map, List.length_cons, List.all_cons, one_row, len_row, ba_beqL, List.drop_succ_cons, List.drop_zero]
  simp only [List.drop_succ_cons, List.drop_zero, List.set_cons_zero, List.set_cons_succ]
  refine AOps.nil (hK2 _ _ ?_); try clear hK2 K2
  refine AW.regcuts fun K3 hK3 => ?_ -- region 2
  refine AOps.cut false 6 28 (.val (.bool ((nameM n.name) && ((((varsR n.ins) && (varsR n.outs)) && (decide (((n.outs.length : Nat) : Int) ≥ 1))) && (varsR n.locals))))) (by rfl) ?_ ?_
  · skip
    cases h25 : ((nameM n.name))
    · skip
      simp only [go_sem, Nat.reduceAdd, Nat.reduceEqDiff, Nat.reduceLeDiff, true_and, ProgM.enc, NodeM.enc, EqM.enc, VarM.enc, enc_one, enc_len, enc_get43, enc_get47, eqc_get81, eqc_get128, List.length_map, List.length_cons, List.all_cons, one_row, len_row, ba_beqL, List.drop_succ_cons, List.drop_zero, List.take_succ_cons, List.take_zero, h25]
      refine sC.of en49 ((name_calls hΓ n.name (by first | assumption | omega)).on _).here (by rfl) ?_
      simp only [go_sem, Nat.reduceAdd, Nat.reduceEqDiff, Nat.reduceLeDiff, true_and, ProgM.enc, NodeM.enc, EqM.enc, VarM.enc, enc_one, enc_len, enc_get43, enc_get47, eqc_get81, eqc_get128, List.length_map, List.length_cons, List.all_cons, one_row, len_row, ba_beqL, List.drop_succ_cons, List.drop_zero, List.take_succ_cons, List.take_zero, h25]
      try simp [upd_at, h25, ProgM.enc, NodeM.enc, EqM.enc, VarM.enc, enc_one, enc_len, enc_get43, enc_get47, eqc_get81, eqc_get128, List.length_map, List.length_cons, List.all_cons, one_row, len_row, ba_beqL, List.drop_succ_cons, List.drop_zero]
    · skip
      simp only [go_sem, Nat.reduceAdd, Nat.reduceEqDiff, Nat.reduceLeDiff, true_and, ProgM.enc, NodeM.enc, EqM.enc, VarM.enc, enc_one, enc_len, enc_get43, enc_get47, eqc_get81, eqc_get128, List.length_map, List.length_cons, List.all_cons, one_row, len_row, ba_beqL, List.drop_succ_cons, List.drop_zero, List.take_succ_cons, List.take_zero, h25]
      refine sC.of en49 ((name_calls hΓ n.name (by first | assumption | omega)).on _).here (by rfl) ?_
      simp only [go_sem, Nat.reduceAdd, Nat.reduceEqDiff, Nat.reduceLeDiff, true_and, ProgM.enc, NodeM.enc, EqM.enc, VarM.enc, enc_one, enc_len, enc_get43, enc_get47, eqc_get81, eqc_get128, List.length_map, List.length_cons, List.all_cons, one_row, len_row, ba_beqL, List.drop_succ_cons, List.drop_zero, List.take_succ_cons, List.take_zero, h25]
      try simp [upd_at, h25, ProgM.enc, NodeM.enc, EqM.enc, VarM.enc, enc_one, enc_len, enc_get43, enc_get47, eqc_get81, eqc_get128, List.length_map, List.length_cons, List.all_cons, one_row, len_row, ba_beqL, List.drop_succ_cons, List.drop_zero]
  simp only [List.drop_succ_cons, List.drop_zero, List.set_cons_zero, List.set_cons_succ]
  refine AOps.cut false 6 34 (.val (.bool (((nameM n.name) && ((((varsR n.ins) && (varsR n.outs)) && (decide (((n.outs.length : Nat) : Int) ≥ 1))) && (varsR n.locals))) && (decide (((n.eqs.length : Nat) : Int) ≤ 1000))))) (by rfl) ?_ ?_
  · skip
    cases h28 : (((nameM n.name) && ((((varsR n.ins) && (varsR n.outs)) && (decide (((n.outs.length : Nat) : Int) ≥ 1))) && (varsR n.locals))))
    · skip
      simp only [go_sem, Nat.reduceAdd, Nat.reduceEqDiff, Nat.reduceLeDiff, true_and, ProgM.enc, NodeM.enc, EqM.enc, VarM.enc, enc_one, enc_len, enc_get43, enc_get47, eqc_get81, eqc_get128, List.length_map, List.length_cons, List.all_cons, one_row, len_row, ba_beqL, List.drop_succ_cons, List.drop_zero, List.take_succ_cons, List.take_zero, h28]
      try simp [upd_at, h28, ProgM.enc, NodeM.enc, EqM.enc, VarM.enc, enc_one, enc_len, enc_get43, enc_get47, eqc_get81, eqc_get128, List.length_map, List.length_cons, List.all_cons, one_row, len_row, ba_beqL, List.drop_succ_cons, List.drop_zero]
    · skip
      simp only [go_sem, Nat.reduceAdd, Nat.reduceEqDiff, Nat.reduceLeDiff, true_and, ProgM.enc, NodeM.enc, EqM.enc, VarM.enc, enc_one, enc_len, enc_get43, enc_get47, eqc_get81, eqc_get128, List.length_map, List.length_cons, List.all_cons, one_row, len_row, ba_beqL, List.drop_succ_cons, List.drop_zero, List.take_succ_cons, List.take_zero, h28]
      try simp [upd_at, h28, ProgM.enc, NodeM.enc, EqM.enc, VarM.enc, enc_one, enc_len, enc_get43, enc_get47, eqc_get81, eqc_get128, List.length_map, List.length_cons, List.all_cons, one_row, len_row, ba_beqL, List.drop_succ_cons, List.drop_zero]
  simp only [List.drop_succ_cons, List.drop_zero, List.set_cons_zero, List.set_cons_succ]
  refine AOps.cut false 7 2 (.val (.bool ((((nameM n.name) && ((((varsR n.ins) && (varsR n.outs)) && (decide (((n.outs.length : Nat) : Int) ≥ 1))) && (varsR n.locals))) && (decide (((n.eqs.length : Nat) : Int) ≤ 1000))) && !((n.eqs.any fun q => !q.right))))) (by rfl) ?_ ?_
  · skip
    cases h34 : ((((nameM n.name) && ((((varsR n.ins) && (varsR n.outs)) && (decide (((n.outs.length : Nat) : Int) ≥ 1))) && (varsR n.locals))) && (decide (((n.eqs.length : Nat) : Int) ≤ 1000))))
    · skip
      simp only [go_sem, Nat.reduceAdd, Nat.reduceEqDiff, Nat.reduceLeDiff, true_and, ProgM.enc, NodeM.enc, EqM.enc, VarM.enc, enc_one, enc_len, enc_get43, enc_get47, eqc_get81, eqc_get128, List.length_map, List.length_cons, List.all_cons, one_row, len_row, ba_beqL, List.drop_succ_cons, List.drop_zero, List.take_succ_cons, List.take_zero, h34]
      try simp [upd_at, h34, ProgM.enc, NodeM.enc, EqM.enc, VarM.enc, enc_one, enc_len, enc_get43, enc_get47, eqc_get81, eqc_get128, List.length_map, List.length_cons, List.all_cons, one_row, len_row, ba_beqL, List.drop_succ_cons, List.drop_zero]
    · skip
      simp only [go_sem, Nat.reduceAdd, Nat.reduceEqDiff, Nat.reduceLeDiff, true_and, ProgM.enc, NodeM.enc, EqM.enc, VarM.enc, enc_one, enc_len, enc_get43, enc_get47, eqc_get81, eqc_get128, List.length_map, List.length_cons, List.all_cons, one_row, len_row, ba_beqL, List.drop_succ_cons, List.drop_zero, List.take_succ_cons, List.take_zero, h34]
      refine sC.of en50 ((containsFunc50 EqM.enc eq_get128 n.nlE n.eqs hl0 51 en51 [] (fun q => !q.right) _ (fun q hq => (eqwrong_calls hΓ q (hok.2.2.2.2.2 q hq)).on _))).here (by rfl) ?_
      simp only [go_sem, Nat.reduceAdd, Nat.reduceEqDiff, Nat.reduceLeDiff, true_and, ProgM.enc, NodeM.enc, EqM.enc, VarM.enc, enc_one, enc_len, enc_get43, enc_get47, eqc_get81, eqc_get128, List.length_map, List.length_cons, List.all_cons, one_row, len_row, ba_beqL, List.drop_succ_cons, List.drop_zero, List.take_succ_cons, List.take_zero, h34]
      try simp [upd_at, h34, ProgM.enc, NodeM.enc, EqM.enc, VarM.enc, enc_one, enc_len, enc_get43, enc_get47, eqc_get81, eqc_get128, List.length_map, List.length_cons, List.all_cons, one_row, len_row, ba_beqL, List.drop_succ_cons, List.drop_zero]
  simp only [List.drop_succ_cons, List.drop_zero, List.set_cons_zero, List.set_cons_succ]
  refine AOps.nil (hK3 _ _ ?_); try clear hK3 K3
  refine AW.ret ⟨.inr rfl, _, rfl, by simp, ?_⟩ -- return 1
  refine frzB ?_
  rfl

set_option maxRecDepth 100000 in
theorem nwrong_calls (hΓ : Words Γ) (n : NodeM) (hok : n.ok) : APure prog Γ 32 [NodeM.enc n] (.val (.bool !n.right)) := by
  refine APure.of func32 rfl fun σ => ?_
  simp only [ntmps32, List.length_cons, List.length_nil, Nat.reduceAdd, Nat.reduceSub, List.replicate_succ, List.replicate_zero, List.cons_append, List.nil_append]
  refine AW.regl false [1, 2] (by rfl) fun K1 hK1 => ?_ -- region 0
  simp only [go_sem, Nat.reduceAdd, Nat.reduceEqDiff, Nat.reduceLeDiff, true_and, ProgM.enc, NodeM.enc, EqM.enc, VarM.enc, enc_one, enc_len, enc_get43, enc_get47, eqc_get81, eqc_get128, List.length_map, List.length_cons, List.all_cons, one_row, len_row, ba_beqL]
  refine hK1 _ _ ?_; try clear hK1 K1
  conv => enter [5]; simp only [setL_cons, setL_nil, List.set_cons_zero, List.set_cons_succ]
  refine AW.regl false [2] (by rfl) fun K2 hK2 => ?_ -- region 1
  simp only [go_sem, Nat.reduceAdd, Nat.reduceEqDiff, Nat.reduceLeDiff, true_and, ProgM.enc, NodeM.enc, EqM.enc, VarM.enc, enc_one, enc_len, enc_get43, enc_get47, eqc_get81, eqc_get128, List.length_map, List.length_cons, List.all_cons, one_row, len_row, ba_beqL]
  refine sC.of en33 ((nright_calls hΓ n hok).on _).here (by rfl) ?_
  simp only [go_sem, Nat.reduceAdd, Nat.reduceEqDiff, Nat.reduceLeDiff, true_and, ProgM.enc, NodeM.enc, EqM.enc, VarM.enc, enc_one, enc_len, enc_get43, enc_get47, eqc_get81, eqc_get128, List.length_map, List.length_cons, List.all_cons, one_row, len_row, ba_beqL]
  refine hK2 _ _ ?_; try clear hK2 K2
  conv => enter [5]; simp only [setL_cons, setL_nil, List.set_cons_zero, List.set_cons_succ]
  refine AW.ret ⟨.inr rfl, _, rfl, by simp, ?_⟩ -- return 1
  refine frzB ?_
  rfl

set_option maxRecDepth 100000 in
theorem indexFunc47 {α : Type} (en : α → AV) (hen : ∀ a, aGet prog 63 (en a).cells = some (en a)) (nl : Bool) (l : List α) (hl : l.length ≤ maxLen) (g : FuncId) (hg : Enters prog g) (caps : List AV) (p : α → Bool) (σ : Sto) (hp : ∀ a ∈ l, APureOn prog Γ g (en a :: caps) σ (.val (.bool (p a)))) : APureOn prog Γ 47 [rowAV 5 nl (l.map en), .fn g caps] σ (.val (.int .i64 (idxFrom p 0 l))) := by
  refine APureOn.of func47 rfl fun τ => ?_
  simp only [ntmps47, List.length_cons, List.length_nil, Nat.reduceAdd, Nat.reduceSub, List.replicate_succ, List.replicate_zero, List.cons_append, List.nil_append]
  have hp' : ∀ (i : Nat) (h : i < l.length), APureOn prog Γ g (en l[i] :: caps) (σ ++ τ) (.val (.bool (p l[i]))) := fun i h => (hp _ (List.getElem_mem h)).more τ
  generalize σ ++ τ = σ at hp' ⊢
  refine AW.regl false [4] (by rfl) fun K1 hK1 => ?_ -- region 0
  simp only [go_sem, Nat.reduceAdd, Nat.reduceEqDiff, Nat.reduceLeDiff, true_and, List.length_map, hen]
  refine hK1 _ _ ?_; try clear hK1 K1
  conv => enter [5]; simp only [setL_cons, setL_nil, List.set_cons_zero, List.set_cons_succ]
  refine AW.seq_k fun K2 hK2 => ?_
  refine AW.regl false [7, 8] (by rfl) fun K3 hK3 => ?_ -- region 1
  simp only [go_sem, Nat.reduceAdd, Nat.reduceEqDiff, Nat.reduceLeDiff, true_and, List.length_map, hen]
  refine hK3 _ _ ?_; try clear hK3 K3
  conv => enter [5]; simp only [setL_cons, setL_nil, List.set_cons_zero, List.set_cons_succ]
  refine AW.block ?_
  refine AW.loop_wk (α := Nat) (fun i => [(rowAV 5 nl (l.map en)), (.fn g caps), .any, .any, .any, .any, .any, (.val (.int .i64 (l.length : Nat))), (.val (.int .i64 (i : Nat))), .any, .any, .any, .any, .any, .any, .any, .any, .any, .any]) (fun i => σ) (fun i => l.length - i) (fun i => i ≤ l.length ∧ idxFrom p 0 l = idxFrom p i (l.drop i)) 0 ?_ ?_
  · exact ⟨⟨Nat.zero_le _, rfl⟩, by simp [Wk], rfl⟩
  · rintro i ⟨hi, hix⟩
    refine AW.regl false [9] (by rfl) fun K4 hK4 => ?_ -- region 2
    simp only [go_sem, Nat.reduceAdd, Nat.reduceEqDiff, Nat.reduceLeDiff, true_and, List.length_map, hen]
    refine hK4 _ _ ?_; try clear hK4 K4
    conv => enter [5]; simp only [setL_cons, setL_nil, List.set_cons_zero, List.set_cons_succ]
    refine AW.seq_k fun K5 hK5 => ?_
    refine AW.cond rfl (fun hc9 => ?_) (fun hc9 => ?_)
    · skip
      have hc9 : i < l.length := by simpa using hc9
      have hx : (l.map en)[i]? = some (en l[i]) := by simp [hc9]
      rw [idxFrom_drop p l i hc9] at hix
      refine AW.skip ?_
      refine hK5 _ _ ?_; try clear hK5 K5
      refine AW.seq_k fun K6 hK6 => ?_
      refine AW.block ?_
      refine AW.regl false [5] (by rfl) fun K7 hK7 => ?_ -- region 3
      simp only [go_sem, Nat.reduceAdd, Nat.reduceEqDiff, Nat.reduceLeDiff, true_and, List.length_map, hen]
      refine hK7 _ _ ?_; try clear hK7 K7
      conv => enter [5]; simp only [setL_cons, setL_nil, List.set_cons_zero, List.set_cons_succ]
      refine AW.regl false [16] (by rfl) fun K8 hK8 => ?_ -- region 4
      simp only [go_sem, Nat.reduceAdd, Nat.reduceEqDiff, Nat.reduceLeDiff, true_and, List.length_map, hen, at_row hx]
      refine sC.of hg (hp' i hc9).here (by rfl) ?_
      simp only [go_sem, Nat.reduceAdd, Nat.reduceEqDiff, Nat.reduceLeDiff, true_and, List.length_map, hen, at_row hx]
      refine hK8 _ _ ?_; try clear hK8 K8
      conv => enter [5]; simp only [setL_cons, setL_nil, List.set_cons_zero, List.set_cons_succ]
      refine AW.cond rfl (fun hc16 => ?_) (fun hc16 => ?_)
      · skip
        rw [if_pos hc16] at hix
        refine AW.regl false [4] (by rfl) fun K9 hK9 => ?_ -- region 5
        simp only [go_sem, Nat.reduceAdd, Nat.reduceEqDiff, Nat.reduceLeDiff, true_and, List.length_map, hen]
        refine hK9 _ _ ?_; try clear hK9 K9
        conv => enter [5]; simp only [setL_cons, setL_nil, List.set_cons_zero, List.set_cons_succ]
        refine AW.ret ⟨.inr rfl, _, rfl, by simp, ?_⟩ -- return 1
        refine frzI ?_
        exact hix.symm
      · skip
        rw [if_neg (ne_true_of_eq_false hc16)] at hix
        refine AW.skip ?_
        refine hK6 _ _ ?_; try clear hK6 K6
        refine AW.lastl false [8] (by rfl) fun K hK => ?_ -- region 6
        simp only [go_sem, Nat.reduceAdd, Nat.reduceEqDiff, Nat.reduceLeDiff, true_and, List.length_map, hen]
        refine hK _ _ fun env' hw => ?_
        simp only [setL_cons, setL_nil, List.set_cons_zero, List.set_cons_succ] at hw
        refine ⟨i + 1, by omega, ⟨by omega, hix⟩, ?_, rfl⟩
        refine hw.trans ?_
        simp [Wk, wrap_succ hc9 hl]
    · skip
      have hc : i = l.length := by have : ¬ i < l.length := by simpa using hc9
                                   omega
      refine AW.exit ?_
      refine hK2 _ _ ?_; try clear hK2 K2
      refine AW.regl false [4] (by rfl) fun K10 hK10 => ?_ -- region 7
      simp only [go_sem, Nat.reduceAdd, Nat.reduceEqDiff, Nat.reduceLeDiff, true_and, List.length_map, hen]
      refine hK10 _ _ ?_; try clear hK10 K10
      conv => enter [5]; simp only [setL_cons, setL_nil, List.set_cons_zero, List.set_cons_succ]
      refine AW.ret ⟨.inr rfl, _, rfl, by simp, ?_⟩ -- return 2
      refine frzI ?_
      rw [hix, hc, List.drop_length]
      rfl

set_option maxRecDepth 100000 in
theorem containsFunc31 {α : Type} (en : α → AV) (hen : ∀ a, aGet prog 63 (en a).cells = some (en a)) (nl : Bool) (l : List α) (hl : l.length ≤ maxLen) (g : FuncId) (hg : Enters prog g) (caps : List AV) (p : α → Bool) (σ : Sto) (hp : ∀ a ∈ l, APureOn prog Γ g (en a :: caps) σ (.val (.bool (p a)))) : APureOn prog Γ 31 [rowAV 5 nl (l.map en), .fn g caps] σ (.val (.bool (l.any p))) := by
  refine APureOn.of func31 rfl fun τ => ?_
  simp only [ntmps31, List.length_cons, List.length_nil, Nat.reduceAdd, Nat.reduceSub, List.replicate_succ, List.replicate_zero, List.cons_append, List.nil_append]
  have hi := (indexFunc47 en hen nl l hl g hg caps p σ hp).more τ
  generalize σ ++ τ = σ at hi ⊢
  refine AW.regl false [4] (by rfl) fun K1 hK1 => ?_ -- region 0
  simp only [go_sem, Nat.reduceAdd, Nat.reduceEqDiff, Nat.reduceLeDiff, true_and]
  refine hK1 _ _ ?_; try clear hK1 K1
  conv => enter [5]; simp only [setL_cons, setL_nil, List.set_cons_zero, List.set_cons_succ]
  refine AW.regl false [4] (by rfl) fun K2 hK2 => ?_ -- region 1
  simp only [go_sem, Nat.reduceAdd, Nat.reduceEqDiff, Nat.reduceLeDiff, true_and]
  refine sC.of en47 (hi).here (by rfl) ?_
  simp only [go_sem, Nat.reduceAdd, Nat.reduceEqDiff, Nat.reduceLeDiff, true_and]
  refine hK2 _ _ ?_; try clear hK2 K2
  conv => enter [5]; simp only [setL_cons, setL_nil, List.set_cons_zero, List.set_cons_succ]
  refine AW.ret ⟨.inr rfl, _, rfl, by simp, ?_⟩ -- return 1
  refine frzB ?_
  exact idxFrom_nonneg p l 0

set_option maxRecDepth 100000 in
theorem pright_calls (hΓ : Words Γ) (p : ProgM) (hok : p.ok) : APure prog Γ 15 [ProgM.enc p] (.val (.bool p.right)) := by
  refine APure.of func15 rfl fun σ => ?_
  simp only [ntmps15, List.length_cons, List.length_nil, Nat.reduceAdd, Nat.reduceSub, List.replicate_succ, List.replicate_zero, List.cons_append, List.nil_append]
  have hl0 : p.nodes.length ≤ maxLen := by rw [maxLen_eq]; have := hok.1; omega
  refine AW.regl false [1, 2] (by rfl) fun K1 hK1 => ?_ -- region 0
  simp only [go_sem, Nat.reduceAdd, Nat.reduceEqDiff, Nat.reduceLeDiff, true_and, ProgM.enc, NodeM.enc, EqM.enc, VarM.enc, enc_one, enc_len, enc_get43, enc_get47, eqc_get81, eqc_get128, List.length_map, List.length_cons, List.all_cons, one_row, len_row, ba_beqL]
  refine hK1 _ _ ?_; try clear hK1 K1
  conv => enter [5]; simp only [setL_cons, setL_nil, List.set_cons_zero, List.set_cons_succ]
  refine AW.regtf false 2 (.val (.bool ((decide (((p.nodes.length : Nat) : Int) ≤ 1000)) && !((p.nodes.any fun n => !n.right))))) (by rfl) ?_ ?_ -- region 1
  · skip
    cases h6 : ((decide (((p.nodes.length : Nat) : Int) ≤ 1000)))
    · skip
      simp only [go_sem, Nat.reduceAdd, Nat.reduceEqDiff, Nat.reduceLeDiff, true_and, ProgM.enc, NodeM.enc, EqM.enc, VarM.enc, enc_one, enc_len, enc_get43, enc_get47, eqc_get81, eqc_get128, List.length_map, List.length_cons, List.all_cons, one_row, len_row, ba_beqL, h6]
      try simp [upd_at, h6, ProgM.enc, NodeM.enc, EqM.enc, VarM.enc, enc_one, enc_len, enc_get43, enc_get47, eqc_get81, eqc_get128, List.length_map, List.length_cons, List.all_cons, one_row, len_row, ba_beqL]
    · skip
      simp only [go_sem, Nat.reduceAdd, Nat.reduceEqDiff, Nat.reduceLeDiff, true_and, ProgM.enc, NodeM.enc, EqM.enc, VarM.enc, enc_one, enc_len, enc_get43, enc_get47, eqc_get81, eqc_get128, List.length_map, List.length_cons, List.all_cons, one_row, len_row, ba_beqL, h6]
      refine sC.of en31 ((containsFunc31 NodeM.enc node_get97 p.nl p.nodes hl0 32 en32 [] (fun n => !n.right) _ (fun n hn => (nwrong_calls hΓ n (hok.2 n hn)).on _))).here (by rfl) ?_
      simp only [go_sem, Nat.reduceAdd, Nat.reduceEqDiff, Nat.reduceLeDiff, true_and, ProgM.enc, NodeM.enc, EqM.enc, VarM.enc, enc_one, enc_len, enc_get43, enc_get47, eqc_get81, eqc_get128, List.length_map, List.length_cons, List.all_cons, one_row, len_row, ba_beqL, h6]
      try simp [upd_at, h6, ProgM.enc, NodeM.enc, EqM.enc, VarM.enc, enc_one, enc_len, enc_get43, enc_get47, eqc_get81, eqc_get128, List.length_map, List.length_cons, List.all_cons, one_row, len_row, ba_beqL]
  conv => enter [5]; simp only [List.set_cons_zero, List.set_cons_succ]
  refine AW.ret ⟨.inr rfl, _, rfl, by simp, ?_⟩ -- return 1
  refine frzB ?_
  rfl

set_option maxRecDepth 100000 in
theorem ovars_calls (nl : Bool) (l : List VarM) (hl : varsOk l) : APure prog Γ 18 [rowAV 2 nl (l.map VarM.enc)] (rowAV 2 true (l.map VarM.enc)) := by
  refine APure.of func18 rfl fun σ => ?_
  simp only [ntmps18, List.length_cons, List.length_nil, Nat.reduceAdd, Nat.reduceSub, List.replicate_succ, List.replicate_zero, List.cons_append, List.nil_append]
  have hl0 : l.length ≤ maxLen := by rw [maxLen_eq]; have := hl.1; omega
  refine AW.regl false [2] (by rfl) fun K1 hK1 => ?_ -- region 0
  simp only [go_sem, Nat.reduceAdd, Nat.reduceEqDiff, Nat.reduceLeDiff, true_and, ProgM.enc, NodeM.enc, EqM.enc, VarM.enc, enc_one, enc_len, enc_get43, enc_get47, eqc_get81, eqc_get128, List.length_map, List.length_cons, List.all_cons, one_row, len_row, ba_beqL]
  refine hK1 _ _ ?_; try clear hK1 K1
  conv => enter [5]; simp only [setL_cons, setL_nil, List.set_cons_zero, List.set_cons_succ]
  refine AW.regl false [3] (by rfl) fun K2 hK2 => ?_ -- region 1
  simp only [go_sem, Nat.reduceAdd, Nat.reduceEqDiff, Nat.reduceLeDiff, true_and, ProgM.enc, NodeM.enc, EqM.enc, VarM.enc, enc_one, enc_len, enc_get43, enc_get47, eqc_get81, eqc_get128, List.length_map, List.length_cons, List.all_cons, one_row, len_row, ba_beqL]
  refine hK2 _ _ ?_; try clear hK2 K2
  conv => enter [5]; simp only [setL_cons, setL_nil, List.set_cons_zero, List.set_cons_succ]
  refine AW.cap 2 ?_
  try simp only [List.append_assoc, List.cons_append, List.nil_append]
  refine AW.ownT 3 σ.length rfl ((app_get0 _ _).trans rfl) (by decide) ?_
  try simp only [List.set_cons_zero, List.set_cons_succ]
  refine AW.seq_k fun K3 hK3 => ?_
  refine AW.regl false [4] (by rfl) fun K4 hK4 => ?_ -- region 2
  simp only [go_sem, Nat.reduceAdd, Nat.reduceEqDiff, Nat.reduceLeDiff, true_and, ProgM.enc, NodeM.enc, EqM.enc, VarM.enc, enc_one, enc_len, enc_get43, enc_get47, eqc_get81, eqc_get128, List.length_map, List.length_cons, List.all_cons, one_row, len_row, ba_beqL]
  refine hK4 _ _ ?_; try clear hK4 K4
  conv => enter [5]; simp only [setL_cons, setL_nil, List.set_cons_zero, List.set_cons_succ]
  refine AW.block ?_
  refine AW.loop_wk (α := Nat) (fun i => [(rowAV 2 nl (l.map VarM.enc)), .any, .any, (.slo true 2 ((l.take i).map VarM.enc) σ.length), (.val (.int .i64 ((i : Nat) : Int))), .any, .any, .any, .any, .any, .any, .any, .any, .any, .any, .any, .any, .any, .any, .any, .any, .any, .any, .any, .any, .any]) (fun i => σ ++ [.cap i 2]) (fun i => l.length - i) (fun i => i ≤ l.length) 0 ?_ ?_
  · exact ⟨Nat.zero_le _, by simp [Wk], rfl⟩
  · intro i hi
    refine AW.seq_k fun K5 hK5 => ?_
    refine AW.regl false [8] (by rfl) fun K6 hK6 => ?_ -- region 3
    simp only [go_sem, Nat.reduceAdd, Nat.reduceEqDiff, Nat.reduceLeDiff, true_and, ProgM.enc, NodeM.enc, EqM.enc, VarM.enc, enc_one, enc_len, enc_get43, enc_get47, eqc_get81, eqc_get128, List.length_map, List.length_cons, List.all_cons, one_row, len_row, ba_beqL]
    refine hK6 _ _ ?_; try clear hK6 K6
    conv => enter [5]; simp only [setL_cons, setL_nil, List.set_cons_zero, List.set_cons_succ]
    refine AW.cond rfl (fun hc8 => ?_) (fun hc8 => ?_)
    · skip
      have hi1 : i < l.length := by simpa using hc8
      have hx : (l.map VarM.enc)[i]? = some (VarM.enc (l[i])) := by rw [List.getElem?_map, List.getElem?_eq_getElem hi1]; rfl
      have hap := app_at (en := VarM.enc) hi1 (by have := hl.1; omega) true 2 24 (by decide)
      have htk : (l.take i).map VarM.enc ++ [.agg [str (l[i]).name, i64 (l[i]).type]] = (l.take (i + 1)).map VarM.enc := take_at VarM.enc hi1
      refine AW.skip ?_
      refine hK5 _ _ ?_; try clear hK5 K5
      refine AW.seq_k fun K7 hK7 => ?_
      refine AW.block ?_
      refine AW.lastml mixed false [3] 13 (by kernel_rfl) (by kernel_rfl) (by rfl) fun K hK => ?_ -- region 5
      simp only [go_sem, Nat.reduceAdd, Nat.reduceEqDiff, Nat.reduceLeDiff, true_and, ProgM.enc, NodeM.enc, EqM.enc, VarM.enc, enc_one, enc_len, enc_get43, enc_get47, eqc_get81, eqc_get128, List.length_map, List.length_cons, List.all_cons, one_row, len_row, ba_beqL, at_row hx, hap, row1_60 _ (.agg [str (l[i]).name, i64 (l[i]).type]) rfl rfl, htk]
      refine hK _ _ fun env' hw => ?_
      simp only [setL_cons, setL_nil, List.set_cons_zero, List.set_cons_succ, upd_none, upd_at] at hw
      refine hK7 _ _ (AW.weaken hw ?_); clear hw; try clear hK7 K7
      refine AW.lastl false [4] (by rfl) fun K hK => ?_ -- region 4
      simp only [go_sem, Nat.reduceAdd, Nat.reduceEqDiff, Nat.reduceLeDiff, true_and, ProgM.enc, NodeM.enc, EqM.enc, VarM.enc, enc_one, enc_len, enc_get43, enc_get47, eqc_get81, eqc_get128, List.length_map, List.length_cons, List.all_cons, one_row, len_row, ba_beqL]
      refine hK _ _ fun env' hw => ?_
      simp only [setL_cons, setL_nil, List.set_cons_zero, List.set_cons_succ] at hw
      refine ⟨i + 1, by omega, by omega, ?_, rfl⟩
      refine hw.trans ?_
      simp [Wk, wrap_succ hi1 hl0]
      try omega
    · skip
      have hi1 : i = l.length := by
        have : ¬ i < l.length := by simpa using hc8
        omega
      refine AW.exit ?_
      refine hK3 _ _ ?_; try clear hK3 K3
      refine AW.regl false [2] (by rfl) fun K8 hK8 => ?_ -- region 6
      simp only [go_sem, Nat.reduceAdd, Nat.reduceEqDiff, Nat.reduceLeDiff, true_and, ProgM.enc, NodeM.enc, EqM.enc, VarM.enc, enc_one, enc_len, enc_get43, enc_get47, eqc_get81, eqc_get128, List.length_map, List.length_cons, List.all_cons, one_row, len_row, ba_beqL]
      refine hK8 _ _ ?_; try clear hK8 K8
      conv => enter [5]; simp only [setL_cons, setL_nil, List.set_cons_zero, List.set_cons_succ]
      refine AW.ret ⟨.inr rfl, _, rfl, by simp, ?_⟩ -- return 1
      rw [hi1, List.take_length]
      exact frz_row var_bel (by omega) l

set_option maxRecDepth 100000 in
set_option maxHeartbeats 1000000 in
theorem oprog_calls (p : ProgM) (hpk : p.ok) : APure prog Γ 7 [p.enc] p.own.enc := by
  refine APure.of func7 rfl fun σ => ?_
  simp only [ntmps7, List.length_cons, List.length_nil, Nat.reduceAdd, Nat.reduceSub, List.replicate_succ, List.replicate_zero, List.cons_append, List.nil_append]
  have hl : p.nodes.length ≤ maxLen := by rw [maxLen_eq]; have := hpk.1; omega
  refine AW.regl false [1, 2] (by rfl) fun K1 hK1 => ?_ -- region 0
  simp only [go_sem, Nat.reduceAdd, Nat.reduceEqDiff, Nat.reduceLeDiff, true_and, ProgM.enc, NodeM.enc, EqM.enc, VarM.enc, enc_one, enc_len, enc_get43, enc_get47, eqc_get81, eqc_get128, List.length_map, List.length_cons, List.all_cons, one_row, len_row, ba_beqL, node_get84, srcS_row]
  refine hK1 _ _ ?_; try clear hK1 K1
  conv => enter [5]; simp only [setL_cons, setL_nil, List.set_cons_zero, List.set_cons_succ]
  refine AW.regl false [3] (by rfl) fun K2 hK2 => ?_ -- region 1
  simp only [go_sem, Nat.reduceAdd, Nat.reduceEqDiff, Nat.reduceLeDiff, true_and, ProgM.enc, NodeM.enc, EqM.enc, VarM.enc, enc_one, enc_len, enc_get43, enc_get47, eqc_get81, eqc_get128, List.length_map, List.length_cons, List.all_cons, one_row, len_row, ba_beqL, node_get84, srcS_row]
  refine hK2 _ _ ?_; try clear hK2 K2
  conv => enter [5]; simp only [setL_cons, setL_nil, List.set_cons_zero, List.set_cons_succ]
  refine AW.cap 5 ?_
  simp only [List.append_assoc, List.cons_append, List.nil_append]
  refine AW.own (σ.length + 2) 0 (σ.length + 3) ((app_get σ _ 2).trans rfl) rfl ((app_get σ _ 3).trans rfl) (by decide) ?_
  simp only [app_set, List.set_cons_zero, List.set_cons_succ]
  refine AW.seq_k fun K3 hK3 => ?_
  refine AW.regl false [4] (by rfl) fun K4 hK4 => ?_ -- region 2
  simp only [go_sem, Nat.reduceAdd, Nat.reduceEqDiff, Nat.reduceLeDiff, true_and, ProgM.enc, NodeM.enc, EqM.enc, VarM.enc, enc_one, enc_len, enc_get43, enc_get47, eqc_get81, eqc_get128, List.length_map, List.length_cons, List.all_cons, one_row, len_row, ba_beqL, node_get84, srcS_row]
  refine hK4 _ _ ?_; try clear hK4 K4
  conv => enter [5]; simp only [setL_cons, setL_nil, List.set_cons_zero, List.set_cons_succ]
  refine AW.block ?_
  refine AW.loop_dr (α := Nat) (fun i => [.any, (.ref σ.length 0), (.ref (σ.length + 1) 0), (.ref (σ.length + 2) 0), (.val (.int .i64 ((i : Nat) : Int))), .any, .any, .any, .any, .any, .any, .any, .any, .any, .any, .any, .any, .any, .any, .any, .any, .any, .any, .any, .any, .any, .any, .any, .any, .any, .any, .any, .any, .any, .any, .any, .any, .any, .any, .any, .any, .any, .any, .any, .any, .any, .any, .any, .any, .any, .any, .any, .any, .any, .any, .any, .any, .any, .any, .any, .any, .any, .any, .any, .any, .any, .any]) (fun i => σ ++ [.cells (ProgM.enc p).cells, .cells [.nilsl], .cells [.slo true 5 (((p.nodes.take i).map NodeM.own).map NodeM.enc) (σ.length + 3)], .cap i 5]) (fun i => p.nodes.length - i) (fun i => i ≤ p.nodes.length) 0 ?_ ?_ ?_
  · exact ⟨Nat.zero_le _, by simp [Wk], rfl⟩
  · refine fun y _ => ⟨by simp [belL, AV.bel], bel_app σ fun a ha => ?_⟩
    simp only [List.mem_cons, List.not_mem_nil, or_false] at ha
    simp only [List.length_append, List.length_cons, List.length_nil]
    rcases ha with rfl | rfl | rfl | rfl
    · exact prog_bel p _
    · rfl
    · simp only [AO.bel, belL, AV.bel, Bool.and_true, Bool.and_eq_true, decide_eq_true_eq]
      exact ⟨by omega, belL_map _ _ fun x _ => node_bel x _⟩
    · rfl
  · intro i hi
    refine AW.seq_k fun K5 hK5 => ?_
    refine AW.regl false [12] (by rfl) fun K6 hK6 => ?_ -- region 3
    simp only [go_sem, Nat.reduceAdd, Nat.reduceEqDiff, Nat.reduceLeDiff, true_and, ProgM.enc, NodeM.enc, EqM.enc, VarM.enc, enc_one, enc_len, enc_get43, enc_get47, eqc_get81, eqc_get128, List.length_map, List.length_cons, List.all_cons, one_row, len_row, ba_beqL, node_get84, srcS_row]
    refine hK6 _ _ ?_; try clear hK6 K6
    conv => enter [5]; simp only [setL_cons, setL_nil, List.set_cons_zero, List.set_cons_succ]
    refine AW.cond rfl (fun hc12 => ?_) (fun hc12 => ?_)
    · skip
      have hi1 : i < p.nodes.length := by simpa using hc12
      obtain ⟨m, hm⟩ : ∃ z, z = p.nodes[i] := ⟨_, rfl⟩
      have hx : (p.nodes.map NodeM.enc)[i]? = some (NodeM.enc m) := by rw [hm, List.getElem?_map, List.getElem?_eq_getElem hi1]; rfl
      have hok : m.ok := hpk.2 m (by rw [hm]; exact mem_at hi1)
      have hle : m.eqs.length ≤ maxLen := by rw [maxLen_eq]; have := hok.2.2.2.2.1; omega
      refine AW.skip ?_
      refine hK5 _ _ ?_; try clear hK5 K5
      refine AW.seq_k fun K7 hK7 => ?_
      refine AW.block ?_
      refine AW.regl false [5] (by rfl) fun K8 hK8 => ?_ -- region 5
      simp only [go_sem, Nat.reduceAdd, Nat.reduceEqDiff, Nat.reduceLeDiff, true_and, ProgM.enc, NodeM.enc, EqM.enc, VarM.enc, enc_one, enc_len, enc_get43, enc_get47, eqc_get81, eqc_get128, List.length_map, List.length_cons, List.all_cons, one_row, len_row, ba_beqL, node_get84, srcS_row, at_row hx]
      refine hK8 _ _ ?_; try clear hK8 K8
      conv => enter [5]; simp only [setL_cons, setL_nil, List.set_cons_zero, List.set_cons_succ, upd_none, upd_at]
      refine AW.regch mixed [σ ++ [.cells (ProgM.enc p).cells, .cells [.nilsl], .cells [.slo true 5 (((p.nodes.take i).map NodeM.own).map NodeM.enc) (σ.length + 3)], .cap i 5, .cells (NodeM.enc m).cells], σ ++ [.cells p.enc.cells, .cells [.nilsl], .cells [.slo true 5 (((p.nodes.take i).map NodeM.own).map NodeM.enc) (σ.length + 3)], .cap i 5, .cells m.enc.cells, .cells [str ⟨#[]⟩, .nilsl, .nilsl, .nilsl, .nilsl]], σ ++ [.cells p.enc.cells, .cells [.nilsl], .cells [.slo true 5 (((p.nodes.take i).map NodeM.own).map NodeM.enc) (σ.length + 3)], .cap i 5, .cells m.enc.cells, .cells [str m.name, rowAV 2 true (m.ins.map VarM.enc), rowAV 2 true (m.outs.map VarM.enc), rowAV 2 true (m.locals.map VarM.enc), .nilsl]]] [(0, 1, true), (0, 1, true), (0, 1, true), (0, 1, true), (0, 1, true), (0, 1, true), (0, 1, true), (0, 1, true), (0, 1, true), (0, 1, true), (0, 1, true), (0, 1, true), (0, 0, false), (0, 0, false)] [6] (by kernel_rfl) (by rfl) (by kernel_rfl) (by rfl) fun K9 hK9 => ?_ -- region 6
      simp only [go_sem, Nat.reduceAdd, Nat.reduceEqDiff, Nat.reduceLeDiff, true_and, ProgM.enc, NodeM.enc, EqM.enc, VarM.enc, enc_one, enc_len, enc_get43, enc_get47, eqc_get81, eqc_get128, List.length_map, List.length_cons, List.all_cons, one_row, len_row, ba_beqL, node_get84, srcS_row, List.append_assoc, List.cons_append, List.nil_append]
      refine xQ.of en18 (fun s _ => ((ovars_calls m.nlI m.ins (by first | exact hok.2.1 | exact hok.2.2.1 | exact hok.2.2.2.1))) s) (by rfl) ?_
      simp only [go_sem, Nat.reduceAdd, Nat.reduceEqDiff, Nat.reduceLeDiff, true_and, ProgM.enc, NodeM.enc, EqM.enc, VarM.enc, enc_one, enc_len, enc_get43, enc_get47, eqc_get81, eqc_get128, List.length_map, List.length_cons, List.all_cons, one_row, len_row, ba_beqL, node_get84, srcS_row, List.append_assoc, List.cons_append, List.nil_append]
      refine xQ.of en18 (fun s _ => ((ovars_calls m.nlO m.outs (by first | exact hok.2.1 | exact hok.2.2.1 | exact hok.2.2.2.1))) s) (by rfl) ?_
      simp only [go_sem, Nat.reduceAdd, Nat.reduceEqDiff, Nat.reduceLeDiff, true_and, ProgM.enc, NodeM.enc, EqM.enc, VarM.enc, enc_one, enc_len, enc_get43, enc_get47, eqc_get81, eqc_get128, List.length_map, List.length_cons, List.all_cons, one_row, len_row, ba_beqL, node_get84, srcS_row, List.append_assoc, List.cons_append, List.nil_append]
      refine xQ.of en18 (fun s _ => ((ovars_calls m.nlL m.locals (by first | exact hok.2.1 | exact hok.2.2.1 | exact hok.2.2.2.1))) s) (by rfl) ?_
      simp only [go_sem, Nat.reduceAdd, Nat.reduceEqDiff, Nat.reduceLeDiff, true_and, ProgM.enc, NodeM.enc, EqM.enc, VarM.enc, enc_one, enc_len, enc_get43, enc_get47, eqc_get81, eqc_get128, List.length_map, List.length_cons, List.all_cons, one_row, len_row, ba_beqL, node_get84, srcS_row, List.append_assoc, List.cons_append, List.nil_append]
      refine xE.of (by first | rfl | (simp; done) | (simp; repeat' constructor)) ?_
      simp only [go_sem, Nat.reduceAdd, Nat.reduceEqDiff, Nat.reduceLeDiff, true_and, ProgM.enc, NodeM.enc, EqM.enc, VarM.enc, enc_one, enc_len, enc_get43, enc_get47, eqc_get81, eqc_get128, List.length_map, List.length_cons, List.all_cons, one_row, len_row, ba_beqL, node_get84, srcS_row, List.append_assoc, List.cons_append, List.nil_append]
      refine xE.of (by first | rfl | (simp; done) | (simp; repeat' constructor)) ?_
      simp only [go_sem, Nat.reduceAdd, Nat.reduceEqDiff, Nat.reduceLeDiff, true_and, ProgM.enc, NodeM.enc, EqM.enc, VarM.enc, enc_one, enc_len, enc_get43, enc_get47, eqc_get81, eqc_get128, List.length_map, List.length_cons, List.all_cons, one_row, len_row, ba_beqL, node_get84, srcS_row, List.append_assoc, List.cons_append, List.nil_append]
      refine hK9 _ ?_; try clear hK9 K9
      conv => enter [5]; simp only [setL_cons, setL_nil, List.set_cons_zero, List.set_cons_succ, upd_none, upd_at]
      show AW _ _ _ _ _ (σ ++ [.cells p.enc.cells, .cells [.nilsl], .cells [.slo true 5 (((p.nodes.take i).map NodeM.own).map NodeM.enc) (σ.length + 3)], .cap i 5, .cells m.enc.cells, .cells [str m.name, rowAV 2 true (m.ins.map VarM.enc), rowAV 2 true (m.outs.map VarM.enc), rowAV 2 true (m.locals.map VarM.enc), .nilsl]]) _
      refine AW.cap 6 ?_
      simp only [List.append_assoc, List.cons_append, List.nil_append]
      refine AW.own (σ.length + 5) 4 (σ.length + 6) ((app_get σ _ 5).trans rfl) rfl ((app_get σ _ 6).trans rfl) (by decide) ?_
      simp only [app_set, List.set_cons_zero, List.set_cons_succ]
      refine AW.seq_k fun K10 hK10 => ?_
      refine AW.regl false [7] (by rfl) fun K11 hK11 => ?_ -- region 7
      simp only [go_sem, Nat.reduceAdd, Nat.reduceEqDiff, Nat.reduceLeDiff, true_and, ProgM.enc, NodeM.enc, EqM.enc, VarM.enc, enc_one, enc_len, enc_get43, enc_get47, eqc_get81, eqc_get128, List.length_map, List.length_cons, List.all_cons, one_row, len_row, ba_beqL, node_get84, srcS_row]
      refine hK11 _ _ ?_; try clear hK11 K11
      conv => enter [5]; simp only [setL_cons, setL_nil, List.set_cons_zero, List.set_cons_succ]
      refine AW.block ?_
      refine AW.loop_dr (α := Nat) (fun j => [.any, (.ref σ.length 0), (.ref (σ.length + 1) 0), (.ref (σ.length + 2) 0), (.val (.int .i64 ((i : Nat) : Int))), (.ref (σ.length + 4) 0), (.ref (σ.length + 5) 0), (.val (.int .i64 ((j : Nat) : Int))), .any, .any, .any, .any, .any, .any, .any, .any, .any, .any, .any, .any, .any, .any, .any, .any, .any, .any, .any, .any, .any, .any, .any, .any, .any, .any, .any, .any, .any, .any, .any, .any, .any, .any, .any, .any, .any, .any, .any, .any, .any, .any, .any, .any, .any, .any, .any, .any, .any, .any, .any, .any, .any, .any, .any, .any, .any, .any, .any]) (fun j => σ ++ [.cells (ProgM.enc p).cells, .cells [.nilsl], .cells [.slo true 5 (((p.nodes.take i).map NodeM.own).map NodeM.enc) (σ.length + 3)], .cap i 5, .cells (NodeM.enc m).cells, .cells [.val (.string m.name), rowAV 2 true (m.ins.map VarM.enc), rowAV 2 true (m.outs.map VarM.enc), rowAV 2 true (m.locals.map VarM.enc), .slo true 6 (((m.eqs.take j).map EqM.own).map EqM.enc) (σ.length + 6)], .cap j 6]) (fun j => m.eqs.length - j) (fun j => j ≤ m.eqs.length) 0 ?_ ?_ ?_
      · exact ⟨Nat.zero_le _, by simp [Wk], rfl⟩
      · refine fun y _ => ⟨by simp [belL, AV.bel], bel_app σ fun a ha => ?_⟩
        simp only [List.mem_cons, List.not_mem_nil, or_false] at ha
        simp only [List.length_append, List.length_cons, List.length_nil]
        rcases ha with rfl | rfl | rfl | rfl | rfl | rfl | rfl
        · exact prog_bel p _
        · rfl
        · simp only [AO.bel, belL, AV.bel, Bool.and_true, Bool.and_eq_true, decide_eq_true_eq]
          exact ⟨by omega, belL_map _ _ fun x _ => node_bel x _⟩
        · rfl
        · exact node_obel m _
        · simp only [AO.bel, belL, AV.bel, row_bel var_bel, Bool.true_and, Bool.and_true, Bool.and_eq_true, decide_eq_true_eq]
          exact ⟨by omega, belL_map _ _ fun x _ => eq_bel x _⟩
        · rfl
      · intro j hi
        refine AW.seq_k fun K12 hK12 => ?_
        refine AW.regl false [36] (by rfl) fun K13 hK13 => ?_ -- region 8
        simp only [go_sem, Nat.reduceAdd, Nat.reduceEqDiff, Nat.reduceLeDiff, true_and, ProgM.enc, NodeM.enc, EqM.enc, VarM.enc, enc_one, enc_len, enc_get43, enc_get47, eqc_get81, eqc_get128, List.length_map, List.length_cons, List.all_cons, one_row, len_row, ba_beqL, node_get84, srcS_row]
        refine hK13 _ _ ?_; try clear hK13 K13
        conv => enter [5]; simp only [setL_cons, setL_nil, List.set_cons_zero, List.set_cons_succ]
        refine AW.cond rfl (fun hc36 => ?_) (fun hc36 => ?_)
        · skip
          have hj1 : j < m.eqs.length := by simpa using hc36
          obtain ⟨u, hu⟩ : ∃ z, z = m.eqs[j] := ⟨_, rfl⟩
          have hy : (m.eqs.map EqM.enc)[j]? = some (.agg (rowAV 1 u.nl (u.lhs.map str) :: u.rhs.enc.cells)) := by rw [hu, List.getElem?_map, List.getElem?_eq_getElem hj1]; rfl
          have hq : u.ok := hok.2.2.2.2.2 u (by rw [hu]; exact mem_at hj1)
          have hap := app_at (en := fun q : EqM => q.own.enc) hj1 (by have := hok.2.2.2.2.1; omega) true 6 88 (by decide)
          rw [show (m.eqs.take j).map (fun q : EqM => q.own.enc) = ((m.eqs.take j).map EqM.own).map EqM.enc by rw [List.map_map]; rfl] at hap
          have hap2 := fun (s : Sto) (k : Nat) (h : s[k]? = some (.cap 0 1)) => app_all s false 1 16 k (u.lhs.map str) (by rw [List.length_map]; have := hq.1.1; omega) (by decide) h
          have hql : (AV.agg (rowAV 1 false (u.lhs.map str) :: u.rhs.norm.enc.cells)).cells.length = 6 := eq_len u.own
          have hqa : (AV.agg (rowAV 1 false (u.lhs.map str) :: u.rhs.norm.enc.cells)).cells.all AV.one = true := eq_all u.own
          have htk : ((m.eqs.take j).map EqM.own).map EqM.enc ++ [.agg (rowAV 1 false (u.lhs.map str) :: u.rhs.norm.enc.cells)] = ((m.eqs.take (j + 1)).map EqM.own).map EqM.enc := by rw [List.map_map, List.map_map, hu]; exact take_at (EqM.enc ∘ EqM.own) hj1
          refine AW.skip ?_
          refine hK12 _ _ ?_; try clear hK12 K12
          refine AW.seq_k fun K14 hK14 => ?_
          refine AW.block ?_
          refine AW.lastch mixed [σ ++ [.cells (ProgM.enc p).cells, .cells [.nilsl], .cells [.slo true 5 (((p.nodes.take i).map NodeM.own).map NodeM.enc) (σ.length + 3)], .cap i 5, .cells (NodeM.enc m).cells, .cells [.val (.string m.name), rowAV 2 true (m.ins.map VarM.enc), rowAV 2 true (m.outs.map VarM.enc), rowAV 2 true (m.locals.map VarM.enc), .slo true 6 (((m.eqs.take j).map EqM.own).map EqM.enc) (σ.length + 6)], .cap j 6], σ ++ [.cells p.enc.cells, .cells [.nilsl], .cells [.slo true 5 (((p.nodes.take i).map NodeM.own).map NodeM.enc) (σ.length + 3)], .cap i 5, .cells m.enc.cells, .cells [str m.name, rowAV 2 true (m.ins.map VarM.enc), rowAV 2 true (m.outs.map VarM.enc), rowAV 2 true (m.locals.map VarM.enc), .slo true 6 (((m.eqs.take j).map EqM.own).map EqM.enc) (σ.length + 6)], .cap j 6, .cap 0 1], σ ++ [.cells p.enc.cells, .cells [.nilsl], .cells [.slo true 5 (((p.nodes.take i).map NodeM.own).map NodeM.enc) (σ.length + 3)], .cap i 5, .cells m.enc.cells, .cells [str m.name, rowAV 2 true (m.ins.map VarM.enc), rowAV 2 true (m.outs.map VarM.enc), rowAV 2 true (m.locals.map VarM.enc), .slo true 6 (((m.eqs.take j).map EqM.own).map EqM.enc) (σ.length + 6)], .cap j 6, .cap u.lhs.length 1], σ ++ [.cells p.enc.cells, .cells [.nilsl], .cells [.slo true 5 (((p.nodes.take i).map NodeM.own).map NodeM.enc) (σ.length + 3)], .cap i 5, .cells m.enc.cells, .cells [str m.name, rowAV 2 true (m.ins.map VarM.enc), rowAV 2 true (m.outs.map VarM.enc), rowAV 2 true (m.locals.map VarM.enc), .slo true 6 (((m.eqs.take j).map EqM.own).map EqM.enc) (σ.length + 6)], .cap (j + 1) 6, .cap u.lhs.length 1], σ ++ [.cells p.enc.cells, .cells [.nilsl], .cells [.slo true 5 (((p.nodes.take i).map NodeM.own).map NodeM.enc) (σ.length + 3)], .cap i 5, .cells m.enc.cells, .cells [str m.name, rowAV 2 true (m.ins.map VarM.enc), rowAV 2 true (m.outs.map VarM.enc), rowAV 2 true (m.locals.map VarM.enc), .slo true 6 (((m.eqs.take (j + 1)).map EqM.own).map EqM.enc) (σ.length + 6)], .cap (j + 1) 6, .cap u.lhs.length 1]] [(0, 2, true), (0, 2, true), (0, 0, false), (0, 1, true), (0, 1, true), (0, 1, true), (0, 1, true), (0, 1, true), (0, 1, true), (0, 0, false), (0, 2, true), (0, 2, true), (0, 2, true), (0, 2, true), (0, 2, true), (0, 2, true), (2, 2, true), (2, 2, true), (2, 2, true), (0, 0, false), (3, 3, true), (0, 0, false)] [] (by kernel_rfl) (by rfl) (by kernel_rfl) (by rfl) fun K hK => ?_ -- region 10
          simp only [go_sem, Nat.reduceAdd, Nat.reduceEqDiff, Nat.reduceLeDiff, true_and, ProgM.enc, NodeM.enc, EqM.enc, VarM.enc, enc_one, enc_len, enc_get43, enc_get47, eqc_get81, eqc_get128, List.length_map, List.length_cons, List.all_cons, one_row, len_row, ba_beqL, node_get84, srcS_row, at_row hy, hap, hap2, row1_61 _ (.agg (rowAV 1 false (u.lhs.map str) :: u.rhs.norm.enc.cells)) hql hqa, htk, List.append_assoc, List.cons_append, List.nil_append]
          refine xE.of (by first | rfl | (simp; done) | (simp; repeat' constructor)) ?_
          simp only [go_sem, Nat.reduceAdd, Nat.reduceEqDiff, Nat.reduceLeDiff, true_and, ProgM.enc, NodeM.enc, EqM.enc, VarM.enc, enc_one, enc_len, enc_get43, enc_get47, eqc_get81, eqc_get128, List.length_map, List.length_cons, List.all_cons, one_row, len_row, ba_beqL, node_get84, srcS_row, at_row hy, hap, hap2, row1_61 _ (.agg (rowAV 1 false (u.lhs.map str) :: u.rhs.norm.enc.cells)) hql hqa, htk, List.append_assoc, List.cons_append, List.nil_append]
          refine xE.weak (rowAV 1 false (u.lhs.map str)) (weak_row false 1 _ _) (by first | rfl | (simp; done) | (simp; repeat' constructor)) ?_
          simp only [go_sem, Nat.reduceAdd, Nat.reduceEqDiff, Nat.reduceLeDiff, true_and, ProgM.enc, NodeM.enc, EqM.enc, VarM.enc, enc_one, enc_len, enc_get43, enc_get47, eqc_get81, eqc_get128, List.length_map, List.length_cons, List.all_cons, one_row, len_row, ba_beqL, node_get84, srcS_row, at_row hy, hap, hap2, row1_61 _ (.agg (rowAV 1 false (u.lhs.map str) :: u.rhs.norm.enc.cells)) hql hqa, htk, List.append_assoc, List.cons_append, List.nil_append]
          refine xQ.of en13 (fun s _ => ((own_calls u.rhs (by have := hq.2.1; omega))) s) (by rfl) ?_
          simp only [go_sem, Nat.reduceAdd, Nat.reduceEqDiff, Nat.reduceLeDiff, true_and, ProgM.enc, NodeM.enc, EqM.enc, VarM.enc, enc_one, enc_len, enc_get43, enc_get47, eqc_get81, eqc_get128, List.length_map, List.length_cons, List.all_cons, one_row, len_row, ba_beqL, node_get84, srcS_row, at_row hy, hap, hap2, row1_61 _ (.agg (rowAV 1 false (u.lhs.map str) :: u.rhs.norm.enc.cells)) hql hqa, htk, List.append_assoc, List.cons_append, List.nil_append]
          refine xE.of (by first | rfl | (simp; done) | (simp; repeat' constructor)) ?_
          simp only [go_sem, Nat.reduceAdd, Nat.reduceEqDiff, Nat.reduceLeDiff, true_and, ProgM.enc, NodeM.enc, EqM.enc, VarM.enc, enc_one, enc_len, enc_get43, enc_get47, eqc_get81, eqc_get128, List.length_map, List.length_cons, List.all_cons, one_row, len_row, ba_beqL, node_get84, srcS_row, at_row hy, hap, hap2, row1_61 _ (.agg (rowAV 1 false (u.lhs.map str) :: u.rhs.norm.enc.cells)) hql hqa, htk, List.append_assoc, List.cons_append, List.nil_append]
          refine xE.of (by first | rfl | (simp; done) | (simp; repeat' constructor)) ?_
          simp only [go_sem, Nat.reduceAdd, Nat.reduceEqDiff, Nat.reduceLeDiff, true_and, ProgM.enc, NodeM.enc, EqM.enc, VarM.enc, enc_one, enc_len, enc_get43, enc_get47, eqc_get81, eqc_get128, List.length_map, List.length_cons, List.all_cons, one_row, len_row, ba_beqL, node_get84, srcS_row, at_row hy, hap, hap2, row1_61 _ (.agg (rowAV 1 false (u.lhs.map str) :: u.rhs.norm.enc.cells)) hql hqa, htk, List.append_assoc, List.cons_append, List.nil_append]
          refine hK _ fun env' hw => ?_
          simp only [setL_cons, setL_nil, List.set_cons_zero, List.set_cons_succ, upd_none, upd_at] at hw
          refine hK14 _ _ (AW.weaken hw ?_); clear hw; try clear hK14 K14
          refine AW.lastl false [7] (by rfl) fun K hK => ?_ -- region 9
          simp only [go_sem, Nat.reduceAdd, Nat.reduceEqDiff, Nat.reduceLeDiff, true_and, ProgM.enc, NodeM.enc, EqM.enc, VarM.enc, enc_one, enc_len, enc_get43, enc_get47, eqc_get81, eqc_get128, List.length_map, List.length_cons, List.all_cons, one_row, len_row, ba_beqL, node_get84, srcS_row]
          refine hK _ _ fun env' hw => ?_
          simp only [setL_cons, setL_nil, List.set_cons_zero, List.set_cons_succ] at hw
          refine ⟨j + 1, by omega, by omega, ?_, by first | rfl | (simp [List.take_append, List.take_of_length_le]; done) | (simp [List.take_append, List.take_of_length_le]; repeat' constructor)⟩
          refine hw.trans ?_
          simp [Wk, wrap_succ hj1 hle]
          try omega
        · skip
          have hj1 : j = m.eqs.length := by
            have : ¬ j < m.eqs.length := by simpa using hc36
            omega
          refine AW.exit ?_
          refine hK10 _ _ ?_; try clear hK10 K10
          refine AW.still (σ.length + 5) ((app_get σ _ 5).trans rfl) ?_
          simp only [app_set, List.set_cons_zero, List.set_cons_succ, List.map_cons, List.map_nil, still_slo, still_val, still_row]
          rw [hj1, List.take_length]
          have hapN := app_at (en := fun x : NodeM => x.own.enc) hi1 (by have := hpk.1; omega) true 5 112 (by decide)
          rw [show (p.nodes.take i).map (fun x : NodeM => x.own.enc) = ((p.nodes.take i).map NodeM.own).map NodeM.enc by rw [List.map_map]; rfl] at hapN
          have htkN : ((p.nodes.take i).map NodeM.own).map NodeM.enc ++ [.agg [str m.name, rowAV 2 true (m.ins.map VarM.enc), rowAV 2 true (m.outs.map VarM.enc), rowAV 2 true (m.locals.map VarM.enc), rowAV 6 true ((m.eqs.map EqM.own).map EqM.enc)]] = ((p.nodes.take (i + 1)).map NodeM.own).map NodeM.enc := by
            have h := take_at (fun x : NodeM => x.own.enc) hi1
            rw [← hm] at h
            rw [List.map_map (l := p.nodes.take i), List.map_map (l := p.nodes.take (i + 1))]
            exact h
          have hrow := fun σ => row1_33 σ (.agg [str m.name, rowAV 2 true (m.ins.map VarM.enc), rowAV 2 true (m.outs.map VarM.enc), rowAV 2 true (m.locals.map VarM.enc), rowAV 6 true ((m.eqs.map EqM.own).map EqM.enc)]) rfl (node_all m.own)
          refine AW.lastl false [] (by rfl) fun K hK => ?_ -- region 11
          simp only [go_sem, Nat.reduceAdd, Nat.reduceEqDiff, Nat.reduceLeDiff, true_and, ProgM.enc, NodeM.enc, EqM.enc, VarM.enc, enc_one, enc_len, enc_get43, enc_get47, eqc_get81, eqc_get128, List.length_map, List.length_cons, List.all_cons, one_row, len_row, ba_beqL, node_get84, srcS_row, hapN, hrow, htkN]
          refine hK _ _ fun env' hw => ?_
          simp only [setL_cons, setL_nil, List.set_cons_zero, List.set_cons_succ] at hw
          refine hK7 _ _ (AW.weaken hw ?_); clear hw; try clear hK7 K7
          refine AW.lastl false [4] (by rfl) fun K hK => ?_ -- region 4
          simp only [go_sem, Nat.reduceAdd, Nat.reduceEqDiff, Nat.reduceLeDiff, true_and, ProgM.enc, NodeM.enc, EqM.enc, VarM.enc, enc_one, enc_len, enc_get43, enc_get47, eqc_get81, eqc_get128, List.length_map, List.length_cons, List.all_cons, one_row, len_row, ba_beqL, node_get84, srcS_row]
          refine hK _ _ fun env' hw => ?_
          simp only [setL_cons, setL_nil, List.set_cons_zero, List.set_cons_succ] at hw
          refine ⟨i + 1, by omega, by omega, ?_, by first | rfl | (simp [List.take_append, List.take_of_length_le]; done) | (simp [List.take_append, List.take_of_length_le]; repeat' constructor)⟩
          refine hw.trans ?_
          simp [Wk, wrap_succ hi1 hl]
          try omega
    · skip
      have hi1 : i = p.nodes.length := by
        have : ¬ i < p.nodes.length := by simpa using hc12
        omega
      refine AW.exit ?_
      refine hK3 _ _ ?_; try clear hK3 K3
      refine AW.regl false [] (by rfl) fun K15 hK15 => ?_ -- region 12
      simp only [go_sem, Nat.reduceAdd, Nat.reduceEqDiff, Nat.reduceLeDiff, true_and, ProgM.enc, NodeM.enc, EqM.enc, VarM.enc, enc_one, enc_len, enc_get43, enc_get47, eqc_get81, eqc_get128, List.length_map, List.length_cons, List.all_cons, one_row, len_row, ba_beqL, node_get84, srcS_row]
      refine hK15 _ _ ?_; try clear hK15 K15
      conv => enter [5]; simp only [setL_cons, setL_nil, List.set_cons_zero, List.set_cons_succ, upd_none, upd_at]
      rw [hi1, List.take_length]
      refine AW.ret ⟨.inr rfl, _, ret_cell (v := .agg [.slo true 5 ((p.nodes.map NodeM.own).map NodeM.enc) (σ.length + 3)]) rfl ((load_app σ _ 35 1 0).trans (by simp only [go_sem, aLoadAt] <;> rfl)), by simp, ?_⟩
      exact .agg (.cons (frz_row (fun x n => node_bel x n) (by omega) (p.nodes.map NodeM.own)) .nil)
end A
end Go.Proofs.Tryd
/-! Programs: the document's answers, and what is the same. -/
namespace Go.Proofs.Tryd
set_option linter.unusedSimpArgs false
set_option linter.unusedVariables false
open Go Go.Proofs.Ev
namespace A
variable {Γ : List (Nat × List AV)}
def totE (l : List EqM) : Nat := (l.map fun q => q.rhs.size).sum
def totN (l : List NodeM) : Nat := (l.map fun n => totE n.eqs).sum
theorem sum_take {α : Type} (f : α → Nat) {l : List α} {i : Nat} (h : i < l.length) : ((l.take (i + 1)).map f).sum = ((l.take i).map f).sum + f l[i] := by
  rw [List.take_succ_eq_append_getElem h, List.map_append, List.sum_append]
  simp
theorem sum_le {α : Type} (f : α → Nat) (l : List α) (i : Nat) : ((l.take i).map f).sum ≤ (l.map f).sum := by
  have := congrArg (fun m => (m.map f).sum) (List.take_append_drop i l)
  simp only [List.map_append, List.sum_append] at this
  omega
def NodeM.big (n : NodeM) : Bool := ((((decide ((n.ins.length : Int) > 40) || decide ((n.outs.length : Int) > 40)) || decide ((n.locals.length : Int) > 40)) || decide ((n.eqs.length : Int) > 40)) || decide ((n.name.size : Int) > 100))
def EqM.big (q : EqM) : Bool := decide ((q.lhs.length : Int) > 40)
def NodeM.great (n : NodeM) : Bool := n.big || n.eqs.any EqM.big
def ProgM.great (p : ProgM) : Bool := p.nodes.any NodeM.great || (decide ((p.nodes.length : Int) > 12) || decide ((totN p.nodes : Int) > 300))
set_option maxRecDepth 100000 in
set_option maxHeartbeats 1000000 in
theorem rnright_calls (n : NodeM) (hok : n.ok) : APure prog Γ 19 [n.enc] (bool n.right) := by
  refine APure.of func19 rfl fun σ => ?_
  simp only [ntmps19, List.length_cons, List.length_nil, Nat.reduceAdd, Nat.reduceSub, List.replicate_succ, List.replicate_zero, List.cons_append, List.nil_append]
  have hn0 : n.name.size ≤ 1000000000 := by have := hok.1; omega
  have hl : n.eqs.length ≤ maxLen := by rw [maxLen_eq]; have := hok.2.2.2.2.1; omega
  refine AW.regl false [1, 2] (by rfl) fun K1 hK1 => ?_ -- region 0
  simp only [go_sem, Nat.reduceAdd, Nat.reduceEqDiff, Nat.reduceLeDiff, true_and, ProgM.enc, NodeM.enc, EqM.enc, VarM.enc, enc_one, enc_len, enc_get43, enc_get47, eqc_get81, eqc_get128, List.length_map, List.length_cons, List.all_cons, one_row, len_row, ba_beqL, List.drop_succ_cons, List.drop_zero]
  refine hK1 _ _ ?_; try clear hK1 K1
  conv => enter [5]; simp only [setL_cons, setL_nil, List.set_cons_zero, List.set_cons_succ]
  refine AW.seq_k fun K2 hK2 => ?_
  refine AW.regcuts fun K3 hK3 => ?_ -- region 1
  refine AOps.cut false 10 15 (.val (.bool (!((nameM n.name)) || !((varsR n.ins))))) (by rfl) ?_ ?_
  · skip
    cases h8 : ((nameM n.name))
    · skip
      simp only [go_sem, Nat.reduceAdd, Nat.reduceEqDiff, Nat.reduceLeDiff, true_and, ProgM.enc, NodeM.enc, EqM.enc, VarM.enc, enc_one, enc_len, enc_get43, enc_get47, eqc_get81, eqc_get128, List.length_map, List.length_cons, List.all_cons, one_row, len_row, ba_beqL, List.drop_succ_cons, List.drop_zero, List.take_succ_cons, List.take_zero, h8]
      refine sC.of en37 ((rname_calls n.name (by first | assumption | omega)).on _).here (by rfl) ?_
      simp only [go_sem, Nat.reduceAdd, Nat.reduceEqDiff, Nat.reduceLeDiff, true_and, ProgM.enc, NodeM.enc, EqM.enc, VarM.enc, enc_one, enc_len, enc_get43, enc_get47, eqc_get81, eqc_get128, List.length_map, List.length_cons, List.all_cons, one_row, len_row, ba_beqL, List.drop_succ_cons, List.drop_zero, List.take_succ_cons, List.take_zero, h8]
      try simp [upd_at, h8, ProgM.enc, NodeM.enc, EqM.enc, VarM.enc, enc_one, enc_len, enc_get43, enc_get47, eqc_get81, eqc_get128, List.length_map, List.length_cons, List.all_cons, one_row, len_row, ba_beqL, List.drop_succ_cons, List.drop_zero]
    · skip
      simp only [go_sem, Nat.reduceAdd, Nat.reduceEqDiff, Nat.reduceLeDiff, true_and, ProgM.enc, NodeM.enc, EqM.enc, VarM.enc, enc_one, enc_len, enc_get43, enc_get47, eqc_get81, eqc_get128, List.length_map, List.length_cons, List.all_cons, one_row, len_row, ba_beqL, List.drop_succ_cons, List.drop_zero, List.take_succ_cons, List.take_zero, h8]
      refine sC.of en37 ((rname_calls n.name (by first | assumption | omega)).on _).here (by rfl) ?_
      simp only [go_sem, Nat.reduceAdd, Nat.reduceEqDiff, Nat.reduceLeDiff, true_and, ProgM.enc, NodeM.enc, EqM.enc, VarM.enc, enc_one, enc_len, enc_get43, enc_get47, eqc_get81, eqc_get128, List.length_map, List.length_cons, List.all_cons, one_row, len_row, ba_beqL, List.drop_succ_cons, List.drop_zero, List.take_succ_cons, List.take_zero, h8]
      refine sC.of en38 ((rvars_calls n.nlI n.ins (by first | exact hok.2.1 | exact hok.2.2.1 | exact hok.2.2.2.1)).on _).here (by rfl) ?_
      simp only [go_sem, Nat.reduceAdd, Nat.reduceEqDiff, Nat.reduceLeDiff, true_and, ProgM.enc, NodeM.enc, EqM.enc, VarM.enc, enc_one, enc_len, enc_get43, enc_get47, eqc_get81, eqc_get128, List.length_map, List.length_cons, List.all_cons, one_row, len_row, ba_beqL, List.drop_succ_cons, List.drop_zero, List.take_succ_cons, List.take_zero, h8]
      try simp [upd_at, h8, ProgM.enc, NodeM.enc, EqM.enc, VarM.enc, enc_one, enc_len, enc_get43, enc_get47, eqc_get81, eqc_get128, List.length_map, List.length_cons, List.all_cons, one_row, len_row, ba_beqL, List.drop_succ_cons, List.drop_zero]
  simp only [List.drop_succ_cons, List.drop_zero, List.set_cons_zero, List.set_cons_succ]
  refine AOps.cut false 6 21 (.val (.bool ((!((nameM n.name)) || !((varsR n.ins))) || !((varsR n.outs))))) (by rfl) ?_ ?_
  · skip
    cases h15 : ((!((nameM n.name)) || !((varsR n.ins))))
    · skip
      simp only [go_sem, Nat.reduceAdd, Nat.reduceEqDiff, Nat.reduceLeDiff, true_and, ProgM.enc, NodeM.enc, EqM.enc, VarM.enc, enc_one, enc_len, enc_get43, enc_get47, eqc_get81, eqc_get128, List.length_map, List.length_cons, List.all_cons, one_row, len_row, ba_beqL, List.drop_succ_cons, List.drop_zero, List.take_succ_cons, List.take_zero, h15]
      refine sC.of en38 ((rvars_calls n.nlO n.outs (by first | exact hok.2.1 | exact hok.2.2.1 | exact hok.2.2.2.1)).on _).here (by rfl) ?_
      simp only [go_sem, Nat.reduceAdd, Nat.reduceEqDiff, Nat.reduceLeDiff, true_and, ProgM.enc, NodeM.enc, EqM.enc, VarM.enc, enc_one, enc_len, enc_get43, enc_get47, eqc_get81, eqc_get128, List.length_map, List.length_cons, List.all_cons, one_row, len_row, ba_beqL, List.drop_succ_cons, List.drop_zero, List.take_succ_cons, List.take_zero, h15]
      try simp [upd_at, h15, ProgM.enc, NodeM.enc, EqM.enc, VarM.enc, enc_one, enc_len, enc_get43, enc_get47, eqc_get81, eqc_get128, List.length_map, List.length_cons, List.all_cons, one_row, len_row, ba_beqL, List.drop_succ_cons, List.drop_zero]
    · skip
      simp only [go_sem, Nat.reduceAdd, Nat.reduceEqDiff, Nat.reduceLeDiff, true_and, ProgM.enc, NodeM.enc, EqM.enc, VarM.enc, enc_one, enc_len, enc_get43, enc_get47, eqc_get81, eqc_get128, List.length_map, List.length_cons, List.all_cons, one_row, len_row, ba_beqL, List.drop_succ_cons, List.drop_zero, List.take_succ_cons, List.take_zero, h15]
      try simp [upd_at, h15, ProgM.enc, NodeM.enc, EqM.enc, VarM.enc, enc_one, enc_len, enc_get43, enc_get47, eqc_get81, eqc_get128, List.length_map, List.length_cons, List.all_cons, one_row, len_row, ba_beqL, List.drop_succ_cons, List.drop_zero]
  simp only [List.drop_succ_cons, List.drop_zero, List.set_cons_zero, List.set_cons_succ]
  refine AOps.cut false 6 27 (.val (.bool (((!((nameM n.name)) || !((varsR n.ins))) || !((varsR n.outs))) || (((n.outs.length : Nat) : Int) == 0)))) (by rfl) ?_ ?_
  · skip
    cases h21 : (((!((nameM n.name)) || !((varsR n.ins))) || !((varsR n.outs))))
    · skip
      simp only [go_sem, Nat.reduceAdd, Nat.reduceEqDiff, Nat.reduceLeDiff, true_and, ProgM.enc, NodeM.enc, EqM.enc, VarM.enc, enc_one, enc_len, enc_get43, enc_get47, eqc_get81, eqc_get128, List.length_map, List.length_cons, List.all_cons, one_row, len_row, ba_beqL, List.drop_succ_cons, List.drop_zero, List.take_succ_cons, List.take_zero, h21]
      try simp [upd_at, h21, ProgM.enc, NodeM.enc, EqM.enc, VarM.enc, enc_one, enc_len, enc_get43, enc_get47, eqc_get81, eqc_get128, List.length_map, List.length_cons, List.all_cons, one_row, len_row, ba_beqL, List.drop_succ_cons, List.drop_zero]
    · skip
      simp only [go_sem, Nat.reduceAdd, Nat.reduceEqDiff, Nat.reduceLeDiff, true_and, ProgM.enc, NodeM.enc, EqM.enc, VarM.enc, enc_one, enc_len, enc_get43, enc_get47, eqc_get81, eqc_get128, List.length_map, List.length_cons, List.all_cons, one_row, len_row, ba_beqL, List.drop_succ_cons, List.drop_zero, List.take_succ_cons, List.take_zero, h21]
      try simp [upd_at, h21, ProgM.enc, NodeM.enc, EqM.enc, VarM.enc, enc_one, enc_len, enc_get43, enc_get47, eqc_get81, eqc_get128, List.length_map, List.length_cons, List.all_cons, one_row, len_row, ba_beqL, List.drop_succ_cons, List.drop_zero]
  simp only [List.drop_succ_cons, List.drop_zero, List.set_cons_zero, List.set_cons_succ]
  refine AOps.cut false 6 33 (.val (.bool ((((!((nameM n.name)) || !((varsR n.ins))) || !((varsR n.outs))) || (((n.outs.length : Nat) : Int) == 0)) || !((varsR n.locals))))) (by rfl) ?_ ?_
  · skip
    cases h27 : ((((!((nameM n.name)) || !((varsR n.ins))) || !((varsR n.outs))) || (((n.outs.length : Nat) : Int) == 0)))
    · skip
      simp only [go_sem, Nat.reduceAdd, Nat.reduceEqDiff, Nat.reduceLeDiff, true_and, ProgM.enc, NodeM.enc, EqM.enc, VarM.enc, enc_one, enc_len, enc_get43, enc_get47, eqc_get81, eqc_get128, List.length_map, List.length_cons, List.all_cons, one_row, len_row, ba_beqL, List.drop_succ_cons, List.drop_zero, List.take_succ_cons, List.take_zero, h27]
      refine sC.of en38 ((rvars_calls n.nlL n.locals (by first | exact hok.2.1 | exact hok.2.2.1 | exact hok.2.2.2.1)).on _).here (by rfl) ?_
      simp only [go_sem, Nat.reduceAdd, Nat.reduceEqDiff, Nat.reduceLeDiff, true_and, ProgM.enc, NodeM.enc, EqM.enc, VarM.enc, enc_one, enc_len, enc_get43, enc_get47, eqc_get81, eqc_get128, List.length_map, List.length_cons, List.all_cons, one_row, len_row, ba_beqL, List.drop_succ_cons, List.drop_zero, List.take_succ_cons, List.take_zero, h27]
      try simp [upd_at, h27, ProgM.enc, NodeM.enc, EqM.enc, VarM.enc, enc_one, enc_len, enc_get43, enc_get47, eqc_get81, eqc_get128, List.length_map, List.length_cons, List.all_cons, one_row, len_row, ba_beqL, List.drop_succ_cons, List.drop_zero]
    · skip
      simp only [go_sem, Nat.reduceAdd, Nat.reduceEqDiff, Nat.reduceLeDiff, true_and, ProgM.enc, NodeM.enc, EqM.enc, VarM.enc, enc_one, enc_len, enc_get43, enc_get47, eqc_get81, eqc_get128, List.length_map, List.length_cons, List.all_cons, one_row, len_row, ba_beqL, List.drop_succ_cons, List.drop_zero, List.take_succ_cons, List.take_zero, h27]
      try simp [upd_at, h27, ProgM.enc, NodeM.enc, EqM.enc, VarM.enc, enc_one, enc_len, enc_get43, enc_get47, eqc_get81, eqc_get128, List.length_map, List.length_cons, List.all_cons, one_row, len_row, ba_beqL, List.drop_succ_cons, List.drop_zero]
  simp only [List.drop_succ_cons, List.drop_zero, List.set_cons_zero, List.set_cons_succ]
  refine AOps.cut false 6 39 (.val (.bool (((((!((nameM n.name)) || !((varsR n.ins))) || !((varsR n.outs))) || (((n.outs.length : Nat) : Int) == 0)) || !((varsR n.locals))) || (decide (((n.eqs.length : Nat) : Int) > 1000))))) (by rfl) ?_ ?_
  · skip
    cases h33 : (((((!((nameM n.name)) || !((varsR n.ins))) || !((varsR n.outs))) || (((n.outs.length : Nat) : Int) == 0)) || !((varsR n.locals))))
    · skip
      simp only [go_sem, Nat.reduceAdd, Nat.reduceEqDiff, Nat.reduceLeDiff, true_and, ProgM.enc, NodeM.enc, EqM.enc, VarM.enc, enc_one, enc_len, enc_get43, enc_get47, eqc_get81, eqc_get128, List.length_map, List.length_cons, List.all_cons, one_row, len_row, ba_beqL, List.drop_succ_cons, List.drop_zero, List.take_succ_cons, List.take_zero, h33]
      try simp [upd_at, h33, ProgM.enc, NodeM.enc, EqM.enc, VarM.enc, enc_one, enc_len, enc_get43, enc_get47, eqc_get81, eqc_get128, List.length_map, List.length_cons, List.all_cons, one_row, len_row, ba_beqL, List.drop_succ_cons, List.drop_zero]
    · skip
      simp only [go_sem, Nat.reduceAdd, Nat.reduceEqDiff, Nat.reduceLeDiff, true_and, ProgM.enc, NodeM.enc, EqM.enc, VarM.enc, enc_one, enc_len, enc_get43, enc_get47, eqc_get81, eqc_get128, List.length_map, List.length_cons, List.all_cons, one_row, len_row, ba_beqL, List.drop_succ_cons, List.drop_zero, List.take_succ_cons, List.take_zero, h33]
      try simp [upd_at, h33, ProgM.enc, NodeM.enc, EqM.enc, VarM.enc, enc_one, enc_len, enc_get43, enc_get47, eqc_get81, eqc_get128, List.length_map, List.length_cons, List.all_cons, one_row, len_row, ba_beqL, List.drop_succ_cons, List.drop_zero]
  simp only [List.drop_succ_cons, List.drop_zero, List.set_cons_zero, List.set_cons_succ]
  refine AOps.nil (hK3 _ _ ?_); try clear hK3 K3
  refine AW.cond rfl (fun hc39 => ?_) (fun hc39 => ?_)
  · skip
    refine AW.regl false [2] (by rfl) fun K4 hK4 => ?_ -- region 2
    simp only [go_sem, Nat.reduceAdd, Nat.reduceEqDiff, Nat.reduceLeDiff, true_and, ProgM.enc, NodeM.enc, EqM.enc, VarM.enc, enc_one, enc_len, enc_get43, enc_get47, eqc_get81, eqc_get128, List.length_map, List.length_cons, List.all_cons, one_row, len_row, ba_beqL, List.drop_succ_cons, List.drop_zero]
    refine hK4 _ _ ?_; try clear hK4 K4
    conv => enter [5]; simp only [setL_cons, setL_nil, List.set_cons_zero, List.set_cons_succ]
    refine AW.ret ⟨.inr rfl, _, rfl, by simp, ?_⟩ -- return 1
    refine frzB ?_
    unfold NodeM.right
    simp only [Bool.or_eq_true, Bool.not_eq_true', decide_eq_true_eq, beq_iff_eq] at hc39
    rcases hc39 with ((((h | h) | h) | h) | h) | h
    · simp [h]
    · simp [h]
    · simp [h]
    · have : ¬ (n.outs.length : Int) ≥ 1 := by omega
      simp [this]
    · simp [h]
    · have : ¬ (n.eqs.length : Int) ≤ 1000 := by omega
      simp [this]
  · skip
    have hpre := hc39
    refine AW.skip ?_
    refine hK2 _ _ ?_; try clear hK2 K2
    refine AW.seq_k fun K5 hK5 => ?_
    refine AW.regl false [3] (by rfl) fun K6 hK6 => ?_ -- region 3
    simp only [go_sem, Nat.reduceAdd, Nat.reduceEqDiff, Nat.reduceLeDiff, true_and, ProgM.enc, NodeM.enc, EqM.enc, VarM.enc, enc_one, enc_len, enc_get43, enc_get47, eqc_get81, eqc_get128, List.length_map, List.length_cons, List.all_cons, one_row, len_row, ba_beqL, List.drop_succ_cons, List.drop_zero]
    refine hK6 _ _ ?_; try clear hK6 K6
    conv => enter [5]; simp only [setL_cons, setL_nil, List.set_cons_zero, List.set_cons_succ]
    refine AW.block ?_
    refine AW.loop_dr (α := Nat) (fun i => [.any, (.ref σ.length 0), .any, (.val (.int .i64 ((i : Nat) : Int))), .any, .any, .any, .any, .any, .any, .any, .any, .any, .any, .any, .any, .any, .any, .any, .any, .any, .any, .any, .any, .any, .any, .any, .any, .any, .any, .any, .any, .any, .any, .any, .any, .any, .any, .any, .any, .any, .any, .any, .any, .any, .any, .any, .any, .any, .any, .any, .any, .any, .any, .any, .any, .any, .any, .any, .any, .any, .any, .any, .any, .any, .any, .any, .any, .any, .any, .any, .any, .any, .any, .any, .any, .any, .any, .any, .any, .any, .any]) (fun i => σ ++ [.cells (NodeM.enc n).cells]) (fun i => n.eqs.length - i) (fun i => i ≤ n.eqs.length ∧ (n.eqs.take i).any (fun q => !q.right) = false) 0 ?_ ?_ ?_
    · exact ⟨⟨Nat.zero_le _, rfl⟩, by simp [Wk], rfl⟩
    · exact fun y _ => ⟨by simp [belL, AV.bel], bel_app σ fun a ha => by
        simp only [List.mem_singleton] at ha
        subst ha
        exact node_obel n _⟩
    · rintro i ⟨hi, hit⟩
      refine AW.seq_k fun K7 hK7 => ?_
      refine AW.regl false [44] (by rfl) fun K8 hK8 => ?_ -- region 4
      simp only [go_sem, Nat.reduceAdd, Nat.reduceEqDiff, Nat.reduceLeDiff, true_and, ProgM.enc, NodeM.enc, EqM.enc, VarM.enc, enc_one, enc_len, enc_get43, enc_get47, eqc_get81, eqc_get128, List.length_map, List.length_cons, List.all_cons, one_row, len_row, ba_beqL, List.drop_succ_cons, List.drop_zero]
      refine hK8 _ _ ?_; try clear hK8 K8
      conv => enter [5]; simp only [setL_cons, setL_nil, List.set_cons_zero, List.set_cons_succ]
      refine AW.cond rfl (fun hc44 => ?_) (fun hc44 => ?_)
      · skip
        have hi1 : i < n.eqs.length := by simpa using hc44
        obtain ⟨u, hu0⟩ : ∃ z, z = n.eqs[i] := ⟨_, rfl⟩
        have hx : (n.eqs.map EqM.enc)[i]? = some (.agg (rowAV 1 u.nl (u.lhs.map str) :: u.rhs.enc.cells)) := by rw [hu0, List.getElem?_map, List.getElem?_eq_getElem hi1]; rfl
        have hu : u.ok := hok.2.2.2.2.2 u (by rw [hu0]; exact mem_at hi1)
        have hlu : u.lhs.length ≤ maxLen := by rw [maxLen_eq]; have := hu.1.1; omega
        refine AW.skip ?_
        refine hK7 _ _ ?_; try clear hK7 K7
        refine AW.seq_k fun K9 hK9 => ?_
        refine AW.block ?_
        refine AW.regl false [4] (by rfl) fun K10 hK10 => ?_ -- region 6
        simp only [go_sem, Nat.reduceAdd, Nat.reduceEqDiff, Nat.reduceLeDiff, true_and, ProgM.enc, NodeM.enc, EqM.enc, VarM.enc, enc_one, enc_len, enc_get43, enc_get47, eqc_get81, eqc_get128, List.length_map, List.length_cons, List.all_cons, one_row, len_row, ba_beqL, List.drop_succ_cons, List.drop_zero, at_row hx, List.cons_append]
        refine hK10 _ _ ?_; try clear hK10 K10
        conv => enter [5]; simp only [setL_cons, setL_nil, List.set_cons_zero, List.set_cons_succ, upd_none, upd_at]
        refine AW.seq_k fun K11 hK11 => ?_
        refine AW.regtf false 67 (.val (.bool (((decide (((u.lhs.length : Nat) : Int) < 1)) || (decide (((u.lhs.length : Nat) : Int) > 1000))) || !((exprR u.rhs))))) (by rfl) ?_ ?_ -- region 7
        · skip
          cases h55 : ((decide (((u.lhs.length : Nat) : Int) < 1)))
          · skip
            cases h60 : ((decide (((u.lhs.length : Nat) : Int) > 1000)))
            · skip
              simp only [go_sem, Nat.reduceAdd, Nat.reduceEqDiff, Nat.reduceLeDiff, true_and, ProgM.enc, NodeM.enc, EqM.enc, VarM.enc, enc_one, enc_len, enc_get43, enc_get47, eqc_get81, eqc_get128, List.length_map, List.length_cons, List.all_cons, one_row, len_row, ba_beqL, List.drop_succ_cons, List.drop_zero, exprR, Bool.not_and, h55, h60]
              refine sC.of en10 ((right_expr_calls u.rhs (by have := hu.2.1; omega) hu.2.2).on _).here (by rfl) ?_
              simp only [go_sem, Nat.reduceAdd, Nat.reduceEqDiff, Nat.reduceLeDiff, true_and, ProgM.enc, NodeM.enc, EqM.enc, VarM.enc, enc_one, enc_len, enc_get43, enc_get47, eqc_get81, eqc_get128, List.length_map, List.length_cons, List.all_cons, one_row, len_row, ba_beqL, List.drop_succ_cons, List.drop_zero, exprR, Bool.not_and, h55, h60]
              try simp [upd_at, h55, h60, ProgM.enc, NodeM.enc, EqM.enc, VarM.enc, enc_one, enc_len, enc_get43, enc_get47, eqc_get81, eqc_get128, List.length_map, List.length_cons, List.all_cons, one_row, len_row, ba_beqL, List.drop_succ_cons, List.drop_zero, exprR, Bool.not_and]
            · skip
              simp only [go_sem, Nat.reduceAdd, Nat.reduceEqDiff, Nat.reduceLeDiff, true_and, ProgM.enc, NodeM.enc, EqM.enc, VarM.enc, enc_one, enc_len, enc_get43, enc_get47, eqc_get81, eqc_get128, List.length_map, List.length_cons, List.all_cons, one_row, len_row, ba_beqL, List.drop_succ_cons, List.drop_zero, exprR, Bool.not_and, h55, h60]
              try simp [upd_at, h55, h60, ProgM.enc, NodeM.enc, EqM.enc, VarM.enc, enc_one, enc_len, enc_get43, enc_get47, eqc_get81, eqc_get128, List.length_map, List.length_cons, List.all_cons, one_row, len_row, ba_beqL, List.drop_succ_cons, List.drop_zero, exprR, Bool.not_and]
          · skip
            simp only [go_sem, Nat.reduceAdd, Nat.reduceEqDiff, Nat.reduceLeDiff, true_and, ProgM.enc, NodeM.enc, EqM.enc, VarM.enc, enc_one, enc_len, enc_get43, enc_get47, eqc_get81, eqc_get128, List.length_map, List.length_cons, List.all_cons, one_row, len_row, ba_beqL, List.drop_succ_cons, List.drop_zero, exprR, Bool.not_and, h55]
            try simp [upd_at, h55, ProgM.enc, NodeM.enc, EqM.enc, VarM.enc, enc_one, enc_len, enc_get43, enc_get47, eqc_get81, eqc_get128, List.length_map, List.length_cons, List.all_cons, one_row, len_row, ba_beqL, List.drop_succ_cons, List.drop_zero, exprR, Bool.not_and]
        conv => enter [5]; simp only [List.set_cons_zero, List.set_cons_succ]
        refine AW.cond rfl (fun hc67 => ?_) (fun hc67 => ?_)
        · skip
          refine AW.regl false [2] (by rfl) fun K13 hK13 => ?_ -- region 8
          simp only [go_sem, Nat.reduceAdd, Nat.reduceEqDiff, Nat.reduceLeDiff, true_and, ProgM.enc, NodeM.enc, EqM.enc, VarM.enc, enc_one, enc_len, enc_get43, enc_get47, eqc_get81, eqc_get128, List.length_map, List.length_cons, List.all_cons, one_row, len_row, ba_beqL, List.drop_succ_cons, List.drop_zero]
          refine hK13 _ _ ?_; try clear hK13 K13
          conv => enter [5]; simp only [setL_cons, setL_nil, List.set_cons_zero, List.set_cons_succ]
          refine AW.ret ⟨.inr rfl, _, rfl, by simp, ?_⟩ -- return 2
          refine frzB ?_
          unfold NodeM.right
          have hb : (!u.right) = true := by
            simp only [Bool.or_eq_true, decide_eq_true_eq, Bool.not_eq_true'] at hc67
            rcases hc67 with (h | h) | h
            · have : ¬ (u.lhs.length : Int) ≥ 1 := by omega
              simp [EqM.right, this]
            · have : ¬ (u.lhs.length : Int) ≤ 1000 := by omega
              simp [EqM.right, this]
            · simp [EqM.right, h]
          rw [any_at hi1 (p := fun q : EqM => !q.right) (by rw [← hu0]; exact hb)]
          simp
        · skip
          refine AW.skip ?_
          refine hK11 _ _ ?_; try clear hK11 K11
          refine AW.regl false [5] (by rfl) fun K14 hK14 => ?_ -- region 9
          simp only [go_sem, Nat.reduceAdd, Nat.reduceEqDiff, Nat.reduceLeDiff, true_and, ProgM.enc, NodeM.enc, EqM.enc, VarM.enc, enc_one, enc_len, enc_get43, enc_get47, eqc_get81, eqc_get128, List.length_map, List.length_cons, List.all_cons, one_row, len_row, ba_beqL, List.drop_succ_cons, List.drop_zero]
          refine hK14 _ _ ?_; try clear hK14 K14
          conv => enter [5]; simp only [setL_cons, setL_nil, List.set_cons_zero, List.set_cons_succ]
          refine AW.block ?_
          refine AW.loop_wk (α := Nat) (fun j => [.any, (.ref σ.length 0), .any, (.val (.int .i64 ((i : Nat) : Int))), (.ref (σ.length + 1) 0), (.val (.int .i64 ((j : Nat) : Int))), .any, .any, .any, .any, .any, .any, .any, .any, .any, .any, .any, .any, .any, .any, .any, .any, .any, .any, .any, .any, .any, .any, .any, .any, .any, .any, .any, .any, .any, .any, .any, .any, .any, .any, .any, .any, .any, .any, .any, .any, .any, .any, .any, .any, .any, .any, .any, .any, .any, .any, .any, .any, .any, .any, .any, .any, .any, .any, .any, .any, .any, .any, .any, .any, .any, .any, .any, .any, .any, .any, .any, .any, .any, .any, .any, .any]) (fun j => σ ++ [.cells (NodeM.enc n).cells, .cells (EqM.enc u).cells]) (fun j => u.lhs.length - j) (fun j => j ≤ u.lhs.length ∧ (u.lhs.take j).any (fun s => !nameM s) = false) 0 ?_ ?_
          · exact ⟨⟨Nat.zero_le _, rfl⟩, by simp [Wk], rfl⟩
          · rintro j ⟨hj, hjt⟩
            refine AW.seq_k fun K15 hK15 => ?_
            refine AW.regl false [72] (by rfl) fun K16 hK16 => ?_ -- region 10
            simp only [go_sem, Nat.reduceAdd, Nat.reduceEqDiff, Nat.reduceLeDiff, true_and, ProgM.enc, NodeM.enc, EqM.enc, VarM.enc, enc_one, enc_len, enc_get43, enc_get47, eqc_get81, eqc_get128, List.length_map, List.length_cons, List.all_cons, one_row, len_row, ba_beqL, List.drop_succ_cons, List.drop_zero]
            refine hK16 _ _ ?_; try clear hK16 K16
            conv => enter [5]; simp only [setL_cons, setL_nil, List.set_cons_zero, List.set_cons_succ]
            refine AW.cond rfl (fun hc72 => ?_) (fun hc72 => ?_)
            · skip
              have hj1 : j < u.lhs.length := by simpa using hc72
              obtain ⟨s, hs0⟩ : ∃ z, z = u.lhs[j] := ⟨_, rfl⟩
              have hy : (u.lhs.map str)[j]? = some (str s) := by rw [hs0, List.getElem?_map, List.getElem?_eq_getElem hj1]; rfl
              have hs1 : s.size ≤ 1000000000 := by have := hu.1.2 s (by rw [hs0]; exact mem_at hj1); omega
              refine AW.skip ?_
              refine hK15 _ _ ?_; try clear hK15 K15
              refine AW.seq_k fun K17 hK17 => ?_
              refine AW.block ?_
              refine AW.regl false [81] (by rfl) fun K18 hK18 => ?_ -- region 12
              simp only [go_sem, Nat.reduceAdd, Nat.reduceEqDiff, Nat.reduceLeDiff, true_and, ProgM.enc, NodeM.enc, EqM.enc, VarM.enc, enc_one, enc_len, enc_get43, enc_get47, eqc_get81, eqc_get128, List.length_map, List.length_cons, List.all_cons, one_row, len_row, ba_beqL, List.drop_succ_cons, List.drop_zero, at_row hy]
              refine sC.of en37 ((rname_calls s (by first | assumption | omega)).on _).here (by rfl) ?_
              simp only [go_sem, Nat.reduceAdd, Nat.reduceEqDiff, Nat.reduceLeDiff, true_and, ProgM.enc, NodeM.enc, EqM.enc, VarM.enc, enc_one, enc_len, enc_get43, enc_get47, eqc_get81, eqc_get128, List.length_map, List.length_cons, List.all_cons, one_row, len_row, ba_beqL, List.drop_succ_cons, List.drop_zero, at_row hy]
              refine hK18 _ _ ?_; try clear hK18 K18
              conv => enter [5]; simp only [setL_cons, setL_nil, List.set_cons_zero, List.set_cons_succ]
              refine AW.cond rfl (fun hc81 => ?_) (fun hc81 => ?_)
              · skip
                refine AW.regl false [2] (by rfl) fun K19 hK19 => ?_ -- region 13
                simp only [go_sem, Nat.reduceAdd, Nat.reduceEqDiff, Nat.reduceLeDiff, true_and, ProgM.enc, NodeM.enc, EqM.enc, VarM.enc, enc_one, enc_len, enc_get43, enc_get47, eqc_get81, eqc_get128, List.length_map, List.length_cons, List.all_cons, one_row, len_row, ba_beqL, List.drop_succ_cons, List.drop_zero]
                refine hK19 _ _ ?_; try clear hK19 K19
                conv => enter [5]; simp only [setL_cons, setL_nil, List.set_cons_zero, List.set_cons_succ]
                refine AW.ret ⟨.inr rfl, _, rfl, by simp, ?_⟩ -- return 3
                refine frzB ?_
                unfold NodeM.right
                have hb : (!u.right) = true := by simp [EqM.right, any_at hj1 (p := fun s => !nameM s) (by rw [← hs0]; exact hc81)]
                rw [any_at hi1 (p := fun q : EqM => !q.right) (by rw [← hu0]; exact hb)]
                simp
              · skip
                refine AW.skip ?_
                refine hK17 _ _ ?_; try clear hK17 K17
                refine AW.lastl false [5] (by rfl) fun K hK => ?_ -- region 11
                simp only [go_sem, Nat.reduceAdd, Nat.reduceEqDiff, Nat.reduceLeDiff, true_and, ProgM.enc, NodeM.enc, EqM.enc, VarM.enc, enc_one, enc_len, enc_get43, enc_get47, eqc_get81, eqc_get128, List.length_map, List.length_cons, List.all_cons, one_row, len_row, ba_beqL, List.drop_succ_cons, List.drop_zero]
                refine hK _ _ fun env' hw => ?_
                simp only [setL_cons, setL_nil, List.set_cons_zero, List.set_cons_succ] at hw
                refine ⟨j + 1, by omega, ⟨by omega, any_step hj1 hjt (by rw [← hs0]; exact hc81)⟩, ?_, rfl⟩
                refine hw.trans ?_
                simp [Wk, wrap_succ hj1 hlu]
                try omega
            · skip
              have hj1 : j = u.lhs.length := by
                have : ¬ j < u.lhs.length := by simpa using hc72
                omega
              have hall2 := any_end (by omega) hjt
              have hgood : (!u.right) = false := by
                simp only [EqM.right, hall2]
                simp only [Bool.or_eq_false_iff, decide_eq_false_iff_not, Bool.not_eq_false'] at hc67
                obtain ⟨⟨h1, h2⟩, h3⟩ := hc67
                simp [h3]
                omega
              refine AW.exit ?_
              refine hK9 _ _ ?_; try clear hK9 K9
              refine AW.lastl false [3] (by rfl) fun K hK => ?_ -- region 5
              simp only [go_sem, Nat.reduceAdd, Nat.reduceEqDiff, Nat.reduceLeDiff, true_and, ProgM.enc, NodeM.enc, EqM.enc, VarM.enc, enc_one, enc_len, enc_get43, enc_get47, eqc_get81, eqc_get128, List.length_map, List.length_cons, List.all_cons, one_row, len_row, ba_beqL, List.drop_succ_cons, List.drop_zero]
              refine hK _ _ fun env' hw => ?_
              simp only [setL_cons, setL_nil, List.set_cons_zero, List.set_cons_succ] at hw
              refine ⟨i + 1, by omega, ⟨by omega, any_step hi1 hit (by rw [← hu0]; exact hgood)⟩, ?_, by first | rfl | (simp [List.take_append, List.take_of_length_le]; done) | (simp [List.take_append, List.take_of_length_le]; repeat' constructor)⟩
              refine hw.trans ?_
              simp [Wk, wrap_succ hi1 hl]
              try omega
      · skip
        have hi1 : i = n.eqs.length := by
          have : ¬ i < n.eqs.length := by simpa using hc44
          omega
        have hall := any_end (by omega) hit
        refine AW.exit ?_
        refine hK5 _ _ ?_; try clear hK5 K5
        refine AW.regl false [2] (by rfl) fun K20 hK20 => ?_ -- region 14
        simp only [go_sem, Nat.reduceAdd, Nat.reduceEqDiff, Nat.reduceLeDiff, true_and, ProgM.enc, NodeM.enc, EqM.enc, VarM.enc, enc_one, enc_len, enc_get43, enc_get47, eqc_get81, eqc_get128, List.length_map, List.length_cons, List.all_cons, one_row, len_row, ba_beqL, List.drop_succ_cons, List.drop_zero]
        refine hK20 _ _ ?_; try clear hK20 K20
        conv => enter [5]; simp only [setL_cons, setL_nil, List.set_cons_zero, List.set_cons_succ]
        refine AW.ret ⟨.inr rfl, _, rfl, by simp, ?_⟩ -- return 4
        refine frzB ?_
        unfold NodeM.right
        rw [hall]
        simp only [Bool.or_eq_false_iff, decide_eq_false_iff_not, Bool.not_eq_false', beq_eq_false_iff_ne] at hpre
        obtain ⟨⟨⟨⟨⟨h1, h2⟩, h3⟩, h4⟩, h5⟩, h6⟩ := hpre
        simp [h1, h2, h3, h5]
        omega

set_option maxRecDepth 100000 in
theorem rpright_calls (p : ProgM) (hpk : p.ok) : APure prog Γ 8 [ProgM.enc p] (.val (.bool p.right)) := by
  refine APure.of func8 rfl fun σ => ?_
  simp only [ntmps8, List.length_cons, List.length_nil, Nat.reduceAdd, Nat.reduceSub, List.replicate_succ, List.replicate_zero, List.cons_append, List.nil_append]
  have hl : p.nodes.length ≤ maxLen := by rw [maxLen_eq]; have := hpk.1; omega
  refine AW.regl false [1, 2] (by rfl) fun K1 hK1 => ?_ -- region 0
  simp only [go_sem, Nat.reduceAdd, Nat.reduceEqDiff, Nat.reduceLeDiff, true_and, ProgM.enc, NodeM.enc, EqM.enc, VarM.enc, enc_one, enc_len, enc_get43, enc_get47, eqc_get81, eqc_get128, List.length_map, List.length_cons, List.all_cons, one_row, len_row, ba_beqL]
  refine hK1 _ _ ?_; try clear hK1 K1
  conv => enter [5]; simp only [setL_cons, setL_nil, List.set_cons_zero, List.set_cons_succ]
  refine AW.seq_k fun K2 hK2 => ?_
  refine AW.regl false [3] (by rfl) fun K3 hK3 => ?_ -- region 1
  simp only [go_sem, Nat.reduceAdd, Nat.reduceEqDiff, Nat.reduceLeDiff, true_and, ProgM.enc, NodeM.enc, EqM.enc, VarM.enc, enc_one, enc_len, enc_get43, enc_get47, eqc_get81, eqc_get128, List.length_map, List.length_cons, List.all_cons, one_row, len_row, ba_beqL]
  refine hK3 _ _ ?_; try clear hK3 K3
  conv => enter [5]; simp only [setL_cons, setL_nil, List.set_cons_zero, List.set_cons_succ]
  refine AW.block ?_
  refine AW.loop_wk (α := Nat) (fun i => [.any, (.ref σ.length 0), .any, (.val (.int .i64 ((i : Nat) : Int))), .any, .any, .any, .any, .any, .any, .any, .any, .any, .any, .any, .any, .any, .any, .any, .any, .any, .any]) (fun i => σ ++ [.cells (ProgM.enc p).cells]) (fun i => p.nodes.length - i) (fun i => i ≤ p.nodes.length ∧ (p.nodes.take i).any (fun n => !n.right) = false) 0 ?_ ?_
  · exact ⟨⟨Nat.zero_le _, rfl⟩, by simp [Wk], rfl⟩
  · rintro i ⟨hi, hit⟩
    refine AW.seq_k fun K4 hK4 => ?_
    refine AW.regl false [8] (by rfl) fun K5 hK5 => ?_ -- region 2
    simp only [go_sem, Nat.reduceAdd, Nat.reduceEqDiff, Nat.reduceLeDiff, true_and, ProgM.enc, NodeM.enc, EqM.enc, VarM.enc, enc_one, enc_len, enc_get43, enc_get47, eqc_get81, eqc_get128, List.length_map, List.length_cons, List.all_cons, one_row, len_row, ba_beqL]
    refine hK5 _ _ ?_; try clear hK5 K5
    conv => enter [5]; simp only [setL_cons, setL_nil, List.set_cons_zero, List.set_cons_succ]
    refine AW.cond rfl (fun hc8 => ?_) (fun hc8 => ?_)
    · skip
      have hi1 : i < p.nodes.length := by simpa using hc8
      obtain ⟨m, hm⟩ : ∃ z, z = p.nodes[i] := ⟨_, rfl⟩
      have hx : (p.nodes.map NodeM.enc)[i]? = some (NodeM.enc m) := by rw [hm, List.getElem?_map, List.getElem?_eq_getElem hi1]; rfl
      have hok : m.ok := hpk.2 m (by rw [hm]; exact mem_at hi1)
      refine AW.skip ?_
      refine hK4 _ _ ?_; try clear hK4 K4
      refine AW.seq_k fun K6 hK6 => ?_
      refine AW.block ?_
      refine AW.regl false [17] (by rfl) fun K7 hK7 => ?_ -- region 4
      simp only [go_sem, Nat.reduceAdd, Nat.reduceEqDiff, Nat.reduceLeDiff, true_and, ProgM.enc, NodeM.enc, EqM.enc, VarM.enc, enc_one, enc_len, enc_get43, enc_get47, eqc_get81, eqc_get128, List.length_map, List.length_cons, List.all_cons, one_row, len_row, ba_beqL, at_row hx]
      refine sC.of en19 ((rnright_calls m hok).on _).here (by rfl) ?_
      simp only [go_sem, Nat.reduceAdd, Nat.reduceEqDiff, Nat.reduceLeDiff, true_and, ProgM.enc, NodeM.enc, EqM.enc, VarM.enc, enc_one, enc_len, enc_get43, enc_get47, eqc_get81, eqc_get128, List.length_map, List.length_cons, List.all_cons, one_row, len_row, ba_beqL, at_row hx]
      refine hK7 _ _ ?_; try clear hK7 K7
      conv => enter [5]; simp only [setL_cons, setL_nil, List.set_cons_zero, List.set_cons_succ]
      refine AW.cond rfl (fun hc17 => ?_) (fun hc17 => ?_)
      · skip
        refine AW.regl false [2] (by rfl) fun K8 hK8 => ?_ -- region 5
        simp only [go_sem, Nat.reduceAdd, Nat.reduceEqDiff, Nat.reduceLeDiff, true_and, ProgM.enc, NodeM.enc, EqM.enc, VarM.enc, enc_one, enc_len, enc_get43, enc_get47, eqc_get81, eqc_get128, List.length_map, List.length_cons, List.all_cons, one_row, len_row, ba_beqL]
        refine hK8 _ _ ?_; try clear hK8 K8
        conv => enter [5]; simp only [setL_cons, setL_nil, List.set_cons_zero, List.set_cons_succ]
        refine AW.ret ⟨.inr rfl, _, rfl, by simp, ?_⟩ -- return 1
        refine frzB ?_
        unfold ProgM.right
        rw [any_at hi1 (p := fun n : NodeM => !n.right) (by rw [← hm]; exact hc17)]
        simp
      · skip
        refine AW.skip ?_
        refine hK6 _ _ ?_; try clear hK6 K6
        refine AW.lastl false [3] (by rfl) fun K hK => ?_ -- region 3
        simp only [go_sem, Nat.reduceAdd, Nat.reduceEqDiff, Nat.reduceLeDiff, true_and, ProgM.enc, NodeM.enc, EqM.enc, VarM.enc, enc_one, enc_len, enc_get43, enc_get47, eqc_get81, eqc_get128, List.length_map, List.length_cons, List.all_cons, one_row, len_row, ba_beqL]
        refine hK _ _ fun env' hw => ?_
        simp only [setL_cons, setL_nil, List.set_cons_zero, List.set_cons_succ] at hw
        refine ⟨i + 1, by omega, ⟨by omega, any_step hi1 hit (by rw [← hm]; exact hc17)⟩, ?_, rfl⟩
        refine hw.trans ?_
        simp [Wk, wrap_succ hi1 hl]
        try omega
    · skip
      have hi1 : i = p.nodes.length := by
        have : ¬ i < p.nodes.length := by simpa using hc8
        omega
      have hall := any_end (by omega) hit
      refine AW.exit ?_
      refine hK2 _ _ ?_; try clear hK2 K2
      refine AW.regl false [2] (by rfl) fun K9 hK9 => ?_ -- region 6
      simp only [go_sem, Nat.reduceAdd, Nat.reduceEqDiff, Nat.reduceLeDiff, true_and, ProgM.enc, NodeM.enc, EqM.enc, VarM.enc, enc_one, enc_len, enc_get43, enc_get47, eqc_get81, eqc_get128, List.length_map, List.length_cons, List.all_cons, one_row, len_row, ba_beqL]
      refine hK9 _ _ ?_; try clear hK9 K9
      conv => enter [5]; simp only [setL_cons, setL_nil, List.set_cons_zero, List.set_cons_succ]
      refine AW.ret ⟨.inr rfl, _, rfl, by simp, ?_⟩ -- return 2
      refine frzB ?_
      unfold ProgM.right
      rw [hall]
      simp

set_option maxRecDepth 100000 in
set_option maxHeartbeats 1000000 in
theorem great_calls (p : ProgM) (hpk : p.ok) (htot : totN p.nodes ≤ 1100000) : APure prog Γ 4 [p.enc] (bool p.great) := by
  refine APure.of func4 rfl fun σ => ?_
  simp only [ntmps4, List.length_cons, List.length_nil, Nat.reduceAdd, Nat.reduceSub, List.replicate_succ, List.replicate_zero, List.cons_append, List.nil_append]
  have hl : p.nodes.length ≤ maxLen := by rw [maxLen_eq]; have := hpk.1; omega
  refine AW.regl false [1, 2] (by rfl) fun K1 hK1 => ?_ -- region 0
  simp only [go_sem, Nat.reduceAdd, Nat.reduceEqDiff, Nat.reduceLeDiff, true_and, ProgM.enc, NodeM.enc, EqM.enc, VarM.enc, enc_one, enc_len, enc_get43, enc_get47, eqc_get81, eqc_get128, List.length_map, List.length_cons, List.all_cons, one_row, len_row, ba_beqL, List.drop_succ_cons, List.drop_zero]
  refine hK1 _ _ ?_; try clear hK1 K1
  conv => enter [5]; simp only [setL_cons, setL_nil, List.set_cons_zero, List.set_cons_succ]
  refine AW.regl false [3] (by rfl) fun K2 hK2 => ?_ -- region 1
  simp only [go_sem, Nat.reduceAdd, Nat.reduceEqDiff, Nat.reduceLeDiff, true_and, ProgM.enc, NodeM.enc, EqM.enc, VarM.enc, enc_one, enc_len, enc_get43, enc_get47, eqc_get81, eqc_get128, List.length_map, List.length_cons, List.all_cons, one_row, len_row, ba_beqL, List.drop_succ_cons, List.drop_zero]
  refine hK2 _ _ ?_; try clear hK2 K2
  conv => enter [5]; simp only [setL_cons, setL_nil, List.set_cons_zero, List.set_cons_succ]
  refine AW.seq_k fun K3 hK3 => ?_
  refine AW.regl false [4] (by rfl) fun K4 hK4 => ?_ -- region 2
  simp only [go_sem, Nat.reduceAdd, Nat.reduceEqDiff, Nat.reduceLeDiff, true_and, ProgM.enc, NodeM.enc, EqM.enc, VarM.enc, enc_one, enc_len, enc_get43, enc_get47, eqc_get81, eqc_get128, List.length_map, List.length_cons, List.all_cons, one_row, len_row, ba_beqL, List.drop_succ_cons, List.drop_zero]
  refine hK4 _ _ ?_; try clear hK4 K4
  conv => enter [5]; simp only [setL_cons, setL_nil, List.set_cons_zero, List.set_cons_succ]
  refine AW.block ?_
  refine AW.loop_dr (α := Nat) (fun i => [.any, (.ref σ.length 0), .any, (.val (.int .i64 ((totN (p.nodes.take i) : Nat) : Int))), (.val (.int .i64 ((i : Nat) : Int))), .any, .any, .any, .any, .any, .any, .any, .any, .any, .any, .any, .any, .any, .any, .any, .any, .any, .any, .any, .any, .any, .any, .any, .any, .any, .any, .any, .any, .any, .any, .any, .any, .any, .any, .any, .any, .any, .any, .any, .any, .any, .any, .any, .any, .any, .any, .any, .any, .any, .any, .any, .any, .any, .any, .any, .any, .any, .any, .any, .any, .any, .any, .any, .any, .any, .any, .any, .any, .any, .any, .any, .any, .any, .any]) (fun i => σ ++ [.cells (ProgM.enc p).cells]) (fun i => p.nodes.length - i) (fun i => i ≤ p.nodes.length ∧ (p.nodes.take i).any NodeM.great = false) 0 ?_ ?_ ?_
  · exact ⟨⟨Nat.zero_le _, rfl⟩, by simp [Wk, totN], rfl⟩
  · exact fun y _ => ⟨by simp [belL, AV.bel], bel_app σ fun a ha => by
      simp only [List.mem_singleton] at ha
      subst ha
      exact prog_bel p _⟩
  · rintro i ⟨hi, hit⟩
    refine AW.seq_k fun K5 hK5 => ?_
    refine AW.regl false [11] (by rfl) fun K6 hK6 => ?_ -- region 3
    simp only [go_sem, Nat.reduceAdd, Nat.reduceEqDiff, Nat.reduceLeDiff, true_and, ProgM.enc, NodeM.enc, EqM.enc, VarM.enc, enc_one, enc_len, enc_get43, enc_get47, eqc_get81, eqc_get128, List.length_map, List.length_cons, List.all_cons, one_row, len_row, ba_beqL, List.drop_succ_cons, List.drop_zero]
    refine hK6 _ _ ?_; try clear hK6 K6
    conv => enter [5]; simp only [setL_cons, setL_nil, List.set_cons_zero, List.set_cons_succ]
    refine AW.cond rfl (fun hc11 => ?_) (fun hc11 => ?_)
    · skip
      have hi1 : i < p.nodes.length := by simpa using hc11
      obtain ⟨m, hm⟩ : ∃ z, z = p.nodes[i] := ⟨_, rfl⟩
      have hx : (p.nodes.map NodeM.enc)[i]? = some (NodeM.enc m) := by rw [hm, List.getElem?_map, List.getElem?_eq_getElem hi1]; rfl
      have hok : m.ok := hpk.2 m (by rw [hm]; exact mem_at hi1)
      have hle : m.eqs.length ≤ maxLen := by rw [maxLen_eq]; have := hok.2.2.2.2.1; omega
      have hsum : totN (p.nodes.take (i + 1)) = totN (p.nodes.take i) + totE m.eqs := by rw [hm]; exact sum_take (fun n : NodeM => totE n.eqs) hi1
      have hsle : totN (p.nodes.take (i + 1)) ≤ totN p.nodes := sum_le _ _ _
      refine AW.skip ?_
      refine hK5 _ _ ?_; try clear hK5 K5
      refine AW.seq_k fun K7 hK7 => ?_
      refine AW.block ?_
      refine AW.regl false [5] (by rfl) fun K8 hK8 => ?_ -- region 5
      simp only [go_sem, Nat.reduceAdd, Nat.reduceEqDiff, Nat.reduceLeDiff, true_and, ProgM.enc, NodeM.enc, EqM.enc, VarM.enc, enc_one, enc_len, enc_get43, enc_get47, eqc_get81, eqc_get128, List.length_map, List.length_cons, List.all_cons, one_row, len_row, ba_beqL, List.drop_succ_cons, List.drop_zero, at_row hx]
      refine hK8 _ _ ?_; try clear hK8 K8
      conv => enter [5]; simp only [setL_cons, setL_nil, List.set_cons_zero, List.set_cons_succ, upd_none, upd_at]
      refine AW.seq_k fun K9 hK9 => ?_
      refine AW.regcuts fun K10 hK10 => ?_ -- region 6
      refine AOps.cut false 10 28 (.val (.bool ((decide (((m.ins.length : Nat) : Int) > 40)) || (decide (((m.outs.length : Nat) : Int) > 40))))) (by rfl) ?_ ?_
      · skip
        cases h22 : ((decide (((m.ins.length : Nat) : Int) > 40)))
        · skip
          simp only [go_sem, Nat.reduceAdd, Nat.reduceEqDiff, Nat.reduceLeDiff, true_and, ProgM.enc, NodeM.enc, EqM.enc, VarM.enc, enc_one, enc_len, enc_get43, enc_get47, eqc_get81, eqc_get128, List.length_map, List.length_cons, List.all_cons, one_row, len_row, ba_beqL, List.drop_succ_cons, List.drop_zero, NodeM.big, List.take_succ_cons, List.take_zero, h22]
          try simp [upd_at, h22, ProgM.enc, NodeM.enc, EqM.enc, VarM.enc, enc_one, enc_len, enc_get43, enc_get47, eqc_get81, eqc_get128, List.length_map, List.length_cons, List.all_cons, one_row, len_row, ba_beqL, List.drop_succ_cons, List.drop_zero, NodeM.big]
        · skip
          simp only [go_sem, Nat.reduceAdd, Nat.reduceEqDiff, Nat.reduceLeDiff, true_and, ProgM.enc, NodeM.enc, EqM.enc, VarM.enc, enc_one, enc_len, enc_get43, enc_get47, eqc_get81, eqc_get128, List.length_map, List.length_cons, List.all_cons, one_row, len_row, ba_beqL, List.drop_succ_cons, List.drop_zero, NodeM.big, List.take_succ_cons, List.take_zero, h22]
          try simp [upd_at, h22, ProgM.enc, NodeM.enc, EqM.enc, VarM.enc, enc_one, enc_len, enc_get43, enc_get47, eqc_get81, eqc_get128, List.length_map, List.length_cons, List.all_cons, one_row, len_row, ba_beqL, List.drop_succ_cons, List.drop_zero, NodeM.big]
      simp only [List.drop_succ_cons, List.drop_zero, List.set_cons_zero, List.set_cons_succ]
      refine AOps.cut false 6 34 (.val (.bool (((decide (((m.ins.length : Nat) : Int) > 40)) || (decide (((m.outs.length : Nat) : Int) > 40))) || (decide (((m.locals.length : Nat) : Int) > 40))))) (by rfl) ?_ ?_
      · skip
        cases h28 : (((decide (((m.ins.length : Nat) : Int) > 40)) || (decide (((m.outs.length : Nat) : Int) > 40))))
        · skip
          simp only [go_sem, Nat.reduceAdd, Nat.reduceEqDiff, Nat.reduceLeDiff, true_and, ProgM.enc, NodeM.enc, EqM.enc, VarM.enc, enc_one, enc_len, enc_get43, enc_get47, eqc_get81, eqc_get128, List.length_map, List.length_cons, List.all_cons, one_row, len_row, ba_beqL, List.drop_succ_cons, List.drop_zero, NodeM.big, List.take_succ_cons, List.take_zero, h28]
          try simp [upd_at, h28, ProgM.enc, NodeM.enc, EqM.enc, VarM.enc, enc_one, enc_len, enc_get43, enc_get47, eqc_get81, eqc_get128, List.length_map, List.length_cons, List.all_cons, one_row, len_row, ba_beqL, List.drop_succ_cons, List.drop_zero, NodeM.big]
        · skip
          simp only [go_sem, Nat.reduceAdd, Nat.reduceEqDiff, Nat.reduceLeDiff, true_and, ProgM.enc, NodeM.enc, EqM.enc, VarM.enc, enc_one, enc_len, enc_get43, enc_get47, eqc_get81, eqc_get128, List.length_map, List.length_cons, List.all_cons, one_row, len_row, ba_beqL, List.drop_succ_cons, List.drop_zero, NodeM.big, List.take_succ_cons, List.take_zero, h28]
          try simp [upd_at, h28, ProgM.enc, NodeM.enc, EqM.enc, VarM.enc, enc_one, enc_len, enc_get43, enc_get47, eqc_get81, eqc_get128, List.length_map, List.length_cons, List.all_cons, one_row, len_row, ba_beqL, List.drop_succ_cons, List.drop_zero, NodeM.big]
      simp only [List.drop_succ_cons, List.drop_zero, List.set_cons_zero, List.set_cons_succ]
      refine AOps.cut false 6 40 (.val (.bool ((((decide (((m.ins.length : Nat) : Int) > 40)) || (decide (((m.outs.length : Nat) : Int) > 40))) || (decide (((m.locals.length : Nat) : Int) > 40))) || (decide (((m.eqs.length : Nat) : Int) > 40))))) (by rfl) ?_ ?_
      · skip
        cases h34 : ((((decide (((m.ins.length : Nat) : Int) > 40)) || (decide (((m.outs.length : Nat) : Int) > 40))) || (decide (((m.locals.length : Nat) : Int) > 40))))
        · skip
          simp only [go_sem, Nat.reduceAdd, Nat.reduceEqDiff, Nat.reduceLeDiff, true_and, ProgM.enc, NodeM.enc, EqM.enc, VarM.enc, enc_one, enc_len, enc_get43, enc_get47, eqc_get81, eqc_get128, List.length_map, List.length_cons, List.all_cons, one_row, len_row, ba_beqL, List.drop_succ_cons, List.drop_zero, NodeM.big, List.take_succ_cons, List.take_zero, h34]
          try simp [upd_at, h34, ProgM.enc, NodeM.enc, EqM.enc, VarM.enc, enc_one, enc_len, enc_get43, enc_get47, eqc_get81, eqc_get128, List.length_map, List.length_cons, List.all_cons, one_row, len_row, ba_beqL, List.drop_succ_cons, List.drop_zero, NodeM.big]
        · skip
          simp only [go_sem, Nat.reduceAdd, Nat.reduceEqDiff, Nat.reduceLeDiff, true_and, ProgM.enc, NodeM.enc, EqM.enc, VarM.enc, enc_one, enc_len, enc_get43, enc_get47, eqc_get81, eqc_get128, List.length_map, List.length_cons, List.all_cons, one_row, len_row, ba_beqL, List.drop_succ_cons, List.drop_zero, NodeM.big, List.take_succ_cons, List.take_zero, h34]
          try simp [upd_at, h34, ProgM.enc, NodeM.enc, EqM.enc, VarM.enc, enc_one, enc_len, enc_get43, enc_get47, eqc_get81, eqc_get128, List.length_map, List.length_cons, List.all_cons, one_row, len_row, ba_beqL, List.drop_succ_cons, List.drop_zero, NodeM.big]
      simp only [List.drop_succ_cons, List.drop_zero, List.set_cons_zero, List.set_cons_succ]
      refine AOps.cut false 6 46 (.val (.bool (m.big))) (by rfl) ?_ ?_
      · skip
        cases h40 : (((((decide (((m.ins.length : Nat) : Int) > 40)) || (decide (((m.outs.length : Nat) : Int) > 40))) || (decide (((m.locals.length : Nat) : Int) > 40))) || (decide (((m.eqs.length : Nat) : Int) > 40))))
        · skip
          simp only [go_sem, Nat.reduceAdd, Nat.reduceEqDiff, Nat.reduceLeDiff, true_and, ProgM.enc, NodeM.enc, EqM.enc, VarM.enc, enc_one, enc_len, enc_get43, enc_get47, eqc_get81, eqc_get128, List.length_map, List.length_cons, List.all_cons, one_row, len_row, ba_beqL, List.drop_succ_cons, List.drop_zero, NodeM.big, List.take_succ_cons, List.take_zero, h40]
          try simp [upd_at, h40, ProgM.enc, NodeM.enc, EqM.enc, VarM.enc, enc_one, enc_len, enc_get43, enc_get47, eqc_get81, eqc_get128, List.length_map, List.length_cons, List.all_cons, one_row, len_row, ba_beqL, List.drop_succ_cons, List.drop_zero, NodeM.big]
        · skip
          simp only [go_sem, Nat.reduceAdd, Nat.reduceEqDiff, Nat.reduceLeDiff, true_and, ProgM.enc, NodeM.enc, EqM.enc, VarM.enc, enc_one, enc_len, enc_get43, enc_get47, eqc_get81, eqc_get128, List.length_map, List.length_cons, List.all_cons, one_row, len_row, ba_beqL, List.drop_succ_cons, List.drop_zero, NodeM.big, List.take_succ_cons, List.take_zero, h40]
          try simp [upd_at, h40, ProgM.enc, NodeM.enc, EqM.enc, VarM.enc, enc_one, enc_len, enc_get43, enc_get47, eqc_get81, eqc_get128, List.length_map, List.length_cons, List.all_cons, one_row, len_row, ba_beqL, List.drop_succ_cons, List.drop_zero, NodeM.big]
      simp only [List.drop_succ_cons, List.drop_zero, List.set_cons_zero, List.set_cons_succ]
      refine AOps.nil (hK10 _ _ ?_); try clear hK10 K10
      refine AW.cond rfl (fun hc46 => ?_) (fun hc46 => ?_)
      · skip
        refine AW.regl false [2] (by rfl) fun K11 hK11 => ?_ -- region 7
        simp only [go_sem, Nat.reduceAdd, Nat.reduceEqDiff, Nat.reduceLeDiff, true_and, ProgM.enc, NodeM.enc, EqM.enc, VarM.enc, enc_one, enc_len, enc_get43, enc_get47, eqc_get81, eqc_get128, List.length_map, List.length_cons, List.all_cons, one_row, len_row, ba_beqL, List.drop_succ_cons, List.drop_zero]
        refine hK11 _ _ ?_; try clear hK11 K11
        conv => enter [5]; simp only [setL_cons, setL_nil, List.set_cons_zero, List.set_cons_succ]
        refine AW.ret ⟨.inr rfl, _, rfl, by simp, ?_⟩ -- return 1
        refine frzB ?_
        unfold ProgM.great
        rw [any_at hi1 (p := NodeM.great) (by rw [← hm]; simp [NodeM.great, hc46])]
        rfl
      · skip
        refine AW.skip ?_
        refine hK9 _ _ ?_; try clear hK9 K9
        refine AW.regl false [6] (by rfl) fun K12 hK12 => ?_ -- region 8
        simp only [go_sem, Nat.reduceAdd, Nat.reduceEqDiff, Nat.reduceLeDiff, true_and, ProgM.enc, NodeM.enc, EqM.enc, VarM.enc, enc_one, enc_len, enc_get43, enc_get47, eqc_get81, eqc_get128, List.length_map, List.length_cons, List.all_cons, one_row, len_row, ba_beqL, List.drop_succ_cons, List.drop_zero]
        refine hK12 _ _ ?_; try clear hK12 K12
        conv => enter [5]; simp only [setL_cons, setL_nil, List.set_cons_zero, List.set_cons_succ]
        refine AW.block ?_
        refine AW.loop_wk (α := Nat) (fun j => [.any, (.ref σ.length 0), .any, (.val (.int .i64 ((totN (p.nodes.take i) + totE (m.eqs.take j) : Nat) : Int))), (.val (.int .i64 ((i : Nat) : Int))), (.ref (σ.length + 1) 0), (.val (.int .i64 ((j : Nat) : Int))), .any, .any, .any, .any, .any, .any, .any, .any, .any, .any, .any, .any, .any, .any, .any, .any, .any, .any, .any, .any, .any, .any, .any, .any, .any, .any, .any, .any, .any, .any, .any, .any, .any, .any, .any, .any, .any, .any, .any, .any, .any, .any, .any, .any, .any, .any, .any, .any, .any, .any, .any, .any, .any, .any, .any, .any, .any, .any, .any, .any, .any, .any, .any, .any, .any, .any, .any, .any, .any, .any, .any, .any]) (fun j => σ ++ [.cells (ProgM.enc p).cells, .cells (NodeM.enc m).cells]) (fun j => m.eqs.length - j) (fun j => j ≤ m.eqs.length ∧ (m.eqs.take j).any EqM.big = false) 0 ?_ ?_
        · exact ⟨⟨Nat.zero_le _, rfl⟩, by simp [Wk, totE], rfl⟩
        · rintro j ⟨hj, hjt⟩
          refine AW.seq_k fun K13 hK13 => ?_
          refine AW.regl false [51] (by rfl) fun K14 hK14 => ?_ -- region 9
          simp only [go_sem, Nat.reduceAdd, Nat.reduceEqDiff, Nat.reduceLeDiff, true_and, ProgM.enc, NodeM.enc, EqM.enc, VarM.enc, enc_one, enc_len, enc_get43, enc_get47, eqc_get81, eqc_get128, List.length_map, List.length_cons, List.all_cons, one_row, len_row, ba_beqL, List.drop_succ_cons, List.drop_zero]
          refine hK14 _ _ ?_; try clear hK14 K14
          conv => enter [5]; simp only [setL_cons, setL_nil, List.set_cons_zero, List.set_cons_succ]
          refine AW.cond rfl (fun hc51 => ?_) (fun hc51 => ?_)
          · skip
            have hj1 : j < m.eqs.length := by simpa using hc51
            obtain ⟨u, hu0⟩ : ∃ z, z = m.eqs[j] := ⟨_, rfl⟩
            have hy : (m.eqs.map EqM.enc)[j]? = some (.agg (rowAV 1 u.nl (u.lhs.map str) :: u.rhs.enc.cells)) := by rw [hu0, List.getElem?_map, List.getElem?_eq_getElem hj1]; rfl
            have hu : u.ok := hok.2.2.2.2.2 u (by rw [hu0]; exact mem_at hj1)
            have hs2 : totE (m.eqs.take (j + 1)) = totE (m.eqs.take j) + u.rhs.size := by rw [hu0]; exact sum_take (fun q : EqM => q.rhs.size) hj1
            have hs3 : totE (m.eqs.take (j + 1)) ≤ totE m.eqs := sum_le _ _ _
            have hw := wrap_add (a := totN (p.nodes.take i) + totE (m.eqs.take j)) (b := u.rhs.size) (c := totN (p.nodes.take i) + totE (m.eqs.take (j + 1))) (by omega) (by omega)
            push_cast at hw
            refine AW.skip ?_
            refine hK13 _ _ ?_; try clear hK13 K13
            refine AW.seq_k fun K15 hK15 => ?_
            refine AW.block ?_
            refine AW.seq_k fun K16 hK16 => ?_
            refine AW.regl false [61] (by rfl) fun K17 hK17 => ?_ -- region 11
            simp only [go_sem, Nat.reduceAdd, Nat.reduceEqDiff, Nat.reduceLeDiff, true_and, ProgM.enc, NodeM.enc, EqM.enc, VarM.enc, enc_one, enc_len, enc_get43, enc_get47, eqc_get81, eqc_get128, List.length_map, List.length_cons, List.all_cons, one_row, len_row, ba_beqL, List.drop_succ_cons, List.drop_zero, at_row hy]
            refine hK17 _ _ ?_; try clear hK17 K17
            conv => enter [5]; simp only [setL_cons, setL_nil, List.set_cons_zero, List.set_cons_succ]
            refine AW.cond rfl (fun hc61 => ?_) (fun hc61 => ?_)
            · skip
              refine AW.regl false [2] (by rfl) fun K18 hK18 => ?_ -- region 12
              simp only [go_sem, Nat.reduceAdd, Nat.reduceEqDiff, Nat.reduceLeDiff, true_and, ProgM.enc, NodeM.enc, EqM.enc, VarM.enc, enc_one, enc_len, enc_get43, enc_get47, eqc_get81, eqc_get128, List.length_map, List.length_cons, List.all_cons, one_row, len_row, ba_beqL, List.drop_succ_cons, List.drop_zero]
              refine hK18 _ _ ?_; try clear hK18 K18
              conv => enter [5]; simp only [setL_cons, setL_nil, List.set_cons_zero, List.set_cons_succ]
              refine AW.ret ⟨.inr rfl, _, rfl, by simp, ?_⟩ -- return 2
              refine frzB ?_
              unfold ProgM.great
              rw [any_at hi1 (p := NodeM.great) (by rw [← hm]; simp [NodeM.great, any_at hj1 (p := EqM.big) (by rw [← hu0]; exact hc61)])]
              rfl
            · skip
              refine AW.skip ?_
              refine hK16 _ _ ?_; try clear hK16 K16
              refine AW.lastl false [3] (by rfl) fun K hK => ?_ -- region 13
              simp only [go_sem, Nat.reduceAdd, Nat.reduceEqDiff, Nat.reduceLeDiff, true_and, ProgM.enc, NodeM.enc, EqM.enc, VarM.enc, enc_one, enc_len, enc_get43, enc_get47, eqc_get81, eqc_get128, List.length_map, List.length_cons, List.all_cons, one_row, len_row, ba_beqL, List.drop_succ_cons, List.drop_zero, at_row hy]
              refine sC.of en5 ((rsize_calls u.rhs (by have := hu.2.1; omega)).on _).here (by rfl) ?_
              simp only [go_sem, Nat.reduceAdd, Nat.reduceEqDiff, Nat.reduceLeDiff, true_and, ProgM.enc, NodeM.enc, EqM.enc, VarM.enc, enc_one, enc_len, enc_get43, enc_get47, eqc_get81, eqc_get128, List.length_map, List.length_cons, List.all_cons, one_row, len_row, ba_beqL, List.drop_succ_cons, List.drop_zero, at_row hy]
              refine hK _ _ fun env' hw => ?_
              simp only [setL_cons, setL_nil, List.set_cons_zero, List.set_cons_succ] at hw
              refine hK15 _ _ (AW.weaken hw ?_); clear hw; try clear hK15 K15
              refine AW.lastl false [6] (by rfl) fun K hK => ?_ -- region 10
              simp only [go_sem, Nat.reduceAdd, Nat.reduceEqDiff, Nat.reduceLeDiff, true_and, ProgM.enc, NodeM.enc, EqM.enc, VarM.enc, enc_one, enc_len, enc_get43, enc_get47, eqc_get81, eqc_get128, List.length_map, List.length_cons, List.all_cons, one_row, len_row, ba_beqL, List.drop_succ_cons, List.drop_zero]
              refine hK _ _ fun env' hw => ?_
              simp only [setL_cons, setL_nil, List.set_cons_zero, List.set_cons_succ] at hw
              refine ⟨j + 1, by omega, ⟨by omega, any_step hj1 hjt (by rw [← hu0]; exact hc61)⟩, ?_, rfl⟩
              refine hw.trans ?_
              simp [Wk, wrap_succ hj1 hle, hw]
              try omega
          · skip
            have hj1 : j = m.eqs.length := by
              have : ¬ j < m.eqs.length := by simpa using hc51
              omega
            have hall2 := any_end (by omega) hjt
            have hgood : NodeM.great m = false := by simp [NodeM.great, hc46, hall2]
            rw [hj1, List.take_length]
            refine AW.exit ?_
            refine hK7 _ _ ?_; try clear hK7 K7
            refine AW.lastl false [4] (by rfl) fun K hK => ?_ -- region 4
            simp only [go_sem, Nat.reduceAdd, Nat.reduceEqDiff, Nat.reduceLeDiff, true_and, ProgM.enc, NodeM.enc, EqM.enc, VarM.enc, enc_one, enc_len, enc_get43, enc_get47, eqc_get81, eqc_get128, List.length_map, List.length_cons, List.all_cons, one_row, len_row, ba_beqL, List.drop_succ_cons, List.drop_zero]
            refine hK _ _ fun env' hw => ?_
            simp only [setL_cons, setL_nil, List.set_cons_zero, List.set_cons_succ] at hw
            refine ⟨i + 1, by omega, ⟨by omega, any_step hi1 hit (by rw [← hm]; exact hgood)⟩, ?_, by first | rfl | (simp [List.take_append, List.take_of_length_le]; done) | (simp [List.take_append, List.take_of_length_le]; repeat' constructor)⟩
            refine hw.trans ?_
            simp [Wk, wrap_succ hi1 hl]
            try omega
    · skip
      have hi1 : i = p.nodes.length := by
        have : ¬ i < p.nodes.length := by simpa using hc11
        omega
      have hall := any_end (by omega) hit
      refine AW.exit ?_
      refine hK3 _ _ ?_; try clear hK3 K3
      refine AW.regtf false 2 (.val (.bool ((decide (((p.nodes.length : Nat) : Int) > 12)) || (decide (((totN (p.nodes.take i) : Nat) : Int) > 300))))) (by rfl) ?_ ?_ -- region 14
      · skip
        cases h74 : ((decide (((p.nodes.length : Nat) : Int) > 12)))
        · skip
          simp only [go_sem, Nat.reduceAdd, Nat.reduceEqDiff, Nat.reduceLeDiff, true_and, ProgM.enc, NodeM.enc, EqM.enc, VarM.enc, enc_one, enc_len, enc_get43, enc_get47, eqc_get81, eqc_get128, List.length_map, List.length_cons, List.all_cons, one_row, len_row, ba_beqL, List.drop_succ_cons, List.drop_zero, h74]
          try simp [upd_at, h74, ProgM.enc, NodeM.enc, EqM.enc, VarM.enc, enc_one, enc_len, enc_get43, enc_get47, eqc_get81, eqc_get128, List.length_map, List.length_cons, List.all_cons, one_row, len_row, ba_beqL, List.drop_succ_cons, List.drop_zero]
        · skip
          simp only [go_sem, Nat.reduceAdd, Nat.reduceEqDiff, Nat.reduceLeDiff, true_and, ProgM.enc, NodeM.enc, EqM.enc, VarM.enc, enc_one, enc_len, enc_get43, enc_get47, eqc_get81, eqc_get128, List.length_map, List.length_cons, List.all_cons, one_row, len_row, ba_beqL, List.drop_succ_cons, List.drop_zero, h74]
          try simp [upd_at, h74, ProgM.enc, NodeM.enc, EqM.enc, VarM.enc, enc_one, enc_len, enc_get43, enc_get47, eqc_get81, eqc_get128, List.length_map, List.length_cons, List.all_cons, one_row, len_row, ba_beqL, List.drop_succ_cons, List.drop_zero]
      conv => enter [5]; simp only [List.set_cons_zero, List.set_cons_succ]
      refine AW.ret ⟨.inr rfl, _, rfl, by simp, ?_⟩ -- return 3
      refine frzB ?_
      unfold ProgM.great
      rw [hall, hi1, List.take_length]
      rfl

end A
end Go.Proofs.Tryd
/-! The law AstPrograms. -/
namespace Go.Proofs.Tryd
set_option linter.unusedSimpArgs false
set_option linter.unusedVariables false
open Go Go.Proofs.Ev
namespace A
variable {Γ : List (Nat × List AV)}
theorem norm_size : ∀ e : E, e.norm.size = e.size := E.ind fun k o n s nl l ih => by
  have go : ∀ l : List E, (∀ e ∈ l, e.norm.size = e.size) → sizeL (l.map E.norm) = sizeL l := by
    intro l
    induction l with
    | nil => intro _; rfl
    | cons e l ih' =>
      intro h
      simp only [List.map_cons, sizeL, h e List.mem_cons_self, ih' fun d hd => h d (List.mem_cons_of_mem _ hd)]
  rw [E.norm_mk, E.size, E.size, go l ih]
theorem norm_depth : ∀ e : E, e.norm.depth = e.depth := E.ind fun k o n s nl l ih => by
  have go : ∀ l : List E, (∀ e ∈ l, e.norm.depth = e.depth) → depthL (l.map E.norm) = depthL l := by
    intro l
    induction l with
    | nil => intro _; rfl
    | cons e l ih' =>
      intro h
      simp only [List.map_cons, depthL, h e List.mem_cons_self, ih' fun d hd => h d (List.mem_cons_of_mem _ hd)]
  rw [E.norm_mk, E.depth, E.depth, go l ih]
theorem norm_shape : ∀ e : E, e.norm.shape = e.shape := E.ind fun k o n s nl l ih => by
  have go : ∀ l : List E, (∀ e ∈ l, e.norm.shape = e.shape) → shapeL (l.map E.norm) = shapeL l := by
    intro l
    induction l with
    | nil => intro _; rfl
    | cons e l ih' =>
      intro h
      simp only [List.map_cons, shapeL, h e List.mem_cons_self, ih' fun d hd => h d (List.mem_cons_of_mem _ hd)]
  rw [E.norm_mk, E.shape, E.shape, go l ih, List.length_map]
theorem norm_pre : ∀ e : E, e.norm.pre = e.pre.map E.norm := E.ind fun k o n s nl l ih => by
  have go : ∀ l : List E, (∀ e ∈ l, e.norm.pre = e.pre.map E.norm) → preL (l.map E.norm) = (preL l).map E.norm := by
    intro l
    induction l with
    | nil => intro _; rfl
    | cons e l ih' =>
      intro h
      simp only [List.map_cons, preL, List.map_append, h e List.mem_cons_self, ih' fun d hd => h d (List.mem_cons_of_mem _ hd)]
  rw [E.norm_mk, E.pre, E.pre, go l ih, List.map_cons, E.norm_mk]
theorem norm_fits {e : E} (h : e.fits) : e.norm.fits := by
  intro d hd
  rw [norm_pre] at hd
  obtain ⟨x, hx, rfl⟩ := List.mem_map.1 hd
  have := h x hx
  cases x
  rw [E.norm_mk]
  exact this
theorem own_exprR (e : E) : exprR e.norm = exprR e := by rw [exprR, exprR, norm_shape, norm_depth]
theorem eqown_ok {q : EqM} (h : q.ok) : q.own.ok := ⟨h.1, by rw [EqM.own, norm_size]; exact h.2.1, norm_fits h.2.2⟩
theorem nodeown_ok {n : NodeM} (h : n.ok) : n.own.ok := by
  refine ⟨h.1, h.2.1, h.2.2.1, h.2.2.2.1, by simpa [NodeM.own] using h.2.2.2.2.1, fun q hq => ?_⟩
  obtain ⟨x, hx, rfl⟩ := List.mem_map.1 hq
  exact eqown_ok (h.2.2.2.2.2 x hx)
theorem progown_ok {p : ProgM} (h : p.ok) : p.own.ok := by
  refine ⟨by simpa [ProgM.own] using h.1, fun n hn => ?_⟩
  obtain ⟨x, hx, rfl⟩ := List.mem_map.1 hn
  exact nodeown_ok (h.2 x hx)
theorem eqown_right (q : EqM) : q.own.right = q.right := by
  show (_ && exprR q.rhs.norm) = _
  rw [own_exprR]
  rfl
theorem nodeown_right (n : NodeM) : n.own.right = n.right := by
  have : n.own.eqs.any (fun q => !q.right) = n.eqs.any fun q => !q.right := by
    simp only [NodeM.own, List.any_map]
    congr 1
    funext q
    simp only [Function.comp, eqown_right]
  unfold NodeM.right
  rw [this]
  simp [NodeM.own]
theorem progown_right (p : ProgM) : p.own.right = p.right := by
  have : p.own.nodes.any (fun n => !n.right) = p.nodes.any fun n => !n.right := by
    simp only [ProgM.own, List.any_map]
    congr 1
    funext n
    simp only [Function.comp, nodeown_right]
  unfold ProgM.right
  rw [this]
  simp [ProgM.own]
end A
end Go.Proofs.Tryd
/-! strings.Builder's copyCheck and String, in the world. -/
namespace Go.Proofs.Tryd
set_option linter.unusedSimpArgs false
set_option linter.unusedVariables false
open Go Go.Shelf Go.RowKit
set_option maxHeartbeats 1000000 in
set_option maxRecDepth 100000 in
theorem copy_used (b : Nat) (w : World) (h0 : w.cell? ⟨b, 0, none⟩ = some (.pointer (some ⟨b, 0, none⟩))) :
    Calls Tryd.prog 69 #[.pointer (some ⟨b, 0, none⟩)] w fun e w' => e = .returned (.tuple #[]) ∧ w' = w := by
  obtain ⟨j, hj, _⟩ := Option.map_eq_some_iff.1 (show (Tryd.prog.info? 57).map (·.size) = some 2 from by kernel_rfl)
  have mixed : Tryd.prog.follows .mixedOrders = true := by kernel_rfl
  have t72 := Tryd.underlying57; have a72 := Tryd.isAgg57; have z72 := Tryd.sizeOf57; have v72 := Tryd.zeroValue57; have u72 := run_underlying Tryd.underlying57
  have t70 := Tryd.underlying54; have a70 := Tryd.isAgg54; have z70 := Tryd.sizeOf54; have v70 := Tryd.zeroValue54; have u70 := run_underlying Tryd.underlying54
  have t164 := Tryd.underlying126; have a164 := Tryd.isAgg126; have z164 := Tryd.sizeOf126; have v164 := Tryd.zeroValue126; have u164 := run_underlying Tryd.underlying126
  go_enter Tryd.func69, Tryd.ntmps69
  go_wp2
  rw [Lib.run_neq_ptr_same w _ Tryd.underlying54 hj]
  go_wp2
  go_end0
  exact ⟨rfl, rfl⟩
set_option maxHeartbeats 1000000 in
set_option maxRecDepth 100000 in
theorem copy_fresh (b : Nat) (w : World) (h0 : w.cell? ⟨b, 0, none⟩ = some (.pointer none)) (hsh : w.shape? b = some (59, 2)) (hfz : w.frozen? ⟨b, 0, none⟩ = false) :
    Calls Tryd.prog 69 #[.pointer (some ⟨b, 0, none⟩)] w fun e w' => e = .returned (.tuple #[]) ∧ w' = w.setCell ⟨b, 0, none⟩ (.pointer (some ⟨b, 0, none⟩)) := by
  obtain ⟨j, hj, hjs⟩ := Option.map_eq_some_iff.1 (show (Tryd.prog.info? 57).map (·.size) = some 2 from by kernel_rfl)
  have mixed : Tryd.prog.follows .mixedOrders = true := by kernel_rfl
  have t72 := Tryd.underlying57; have a72 := Tryd.isAgg57; have z72 := Tryd.sizeOf57; have v72 := Tryd.zeroValue57; have u72 := run_underlying Tryd.underlying57
  have t70 := Tryd.underlying54; have a70 := Tryd.isAgg54; have z70 := Tryd.sizeOf54; have v70 := Tryd.zeroValue54; have u70 := run_underlying Tryd.underlying54
  have t164 := Tryd.underlying126; have a164 := Tryd.isAgg126; have z164 := Tryd.sizeOf126; have v164 := Tryd.zeroValue126; have u164 := run_underlying Tryd.underlying126
  go_enter Tryd.func69, Tryd.ntmps69
  go_wp2
  rw [Lib.run_to_unsafe w ⟨b, 0, none⟩ Tryd.underlying54 Tryd.underlying126 hj (by rw [hjs]; decide) hsh (Nat.zero_lt_succ 1)]
  simp only [Result.andThen]
  rw [Oper.upon_value]
  go_wp2
  rw [run_callFunc_extern Tryd.func79 (by kernel_rfl) (by kernel_rfl) (by kernel_rfl) (e := Extern.AbiNoEscape.same) (by kernel_rfl)]
  rw [Lib.run_noEscape]
  simp only [Result.andThen]
  rw [Oper.upon_value]
  go_wp2
  rw [Lib.run_from_unsafe w ⟨b, 0, none⟩ Tryd.underlying126 Tryd.underlying54 hj hsh (by kernel_rfl)]
  simp only [Result.andThen]
  rw [Oper.upon_value]
  go_wp2
  go_end0
  exact ⟨rfl, rfl⟩
set_option maxHeartbeats 2000000 in
set_option maxRecDepth 100000 in
theorem str_nil (b : Nat) (w : World) (c0 : w.cell? ⟨b, 1, none⟩ = some (.slice none 0 0)) :
    Calls Tryd.prog 17 #[.pointer (some ⟨b, 0, none⟩)] w fun e w' => e = .returned (.string ⟨#[]⟩) ∧ w' = w.drew := by
  have hUS : ∀ (W : World) (q : Option Addr), (Builtin.unsafeString_ #[83, 3] 9 #[.pointer q, .int .i64 0]).run Tryd.prog W = .ok (.string .empty) W := fun W q => Lib.run_unsafeString_none W _ _ _ q
  have c1 : w.drew.cell? ⟨b, 1, none⟩ = some (.slice none 0 0) := c0
  have hSD : (Builtin.unsafeSliceData_ #[55] 83 #[.slice none 0 0]).run Tryd.prog w.drew = .ok (.pointer none) w.drew := rfl
  have mixed : Tryd.prog.follows .mixedOrders = true := by kernel_rfl
  have t57 := Tryd.underlying57; have a57 := Tryd.isAgg57; have z57 := Tryd.sizeOf57; have v57 := Tryd.zeroValue57; have u57 := run_underlying Tryd.underlying57
  have t54 := Tryd.underlying54; have a54 := Tryd.isAgg54; have z54 := Tryd.sizeOf54; have v54 := Tryd.zeroValue54; have u54 := run_underlying Tryd.underlying54
  have t55 := Tryd.underlying55; have a55 := Tryd.isAgg55; have z55 := Tryd.sizeOf55; have v55 := Tryd.zeroValue55; have u55 := run_underlying Tryd.underlying55
  have t83 := Tryd.underlying83; have a83 := Tryd.isAgg83; have z83 := Tryd.sizeOf83; have v83 := Tryd.zeroValue83; have u83 := run_underlying Tryd.underlying83
  have t3 := Tryd.underlying3; have a3 := Tryd.isAgg3; have z3 := Tryd.sizeOf3; have v3 := Tryd.zeroValue3; have u3 := run_underlying Tryd.underlying3
  have t9 := Tryd.underlying9; have a9 := Tryd.isAgg9; have z9 := Tryd.sizeOf9; have v9 := Tryd.zeroValue9; have u9 := run_underlying Tryd.underlying9
  have t5 := Tryd.underlying5; have a5 := Tryd.isAgg5; have z5 := Tryd.sizeOf5; have v5 := Tryd.zeroValue5; have u5 := run_underlying Tryd.underlying5
  go_enter Tryd.func17, Tryd.ntmps17
  go_wp2
  go_region_o
  all_goals (go_wp2; go_ret; exact ⟨rfl, rfl⟩)
set_option maxHeartbeats 2000000 in
set_option maxRecDepth 100000 in
theorem str_row (b g cap n : Nat) (l : List UInt8) (w : World) (c0 : w.cell? ⟨b, 1, none⟩ = some (.slice (some ⟨g, 0, none⟩) l.length cap)) (h0 : l ≠ []) (hcap : l.length ≤ cap) (hmax : cap ≤ maxLen) (hsh : w.shape? g = some (5, n)) (hn : l.length ≤ n) (hcs : ∀ (j : Nat) (x : UInt8), l[j]? = some x → w.cell? ⟨g, j, none⟩ = some (.int .u8 x.toNat)) :
    Calls Tryd.prog 17 #[.pointer (some ⟨b, 0, none⟩)] w fun e w' => e = .returned (.string ⟨l.toArray⟩) ∧ w' = w.drew.freeze ⟨g, 0, none⟩ l.length := by
  have hl0 : l.length ≠ 0 := by simpa using h0
  have c1 : w.drew.cell? ⟨b, 1, none⟩ = some (.slice (some ⟨g, 0, none⟩) l.length cap) := c0
  have hSD : (Builtin.unsafeSliceData_ #[55] 83 #[.slice (some ⟨g, 0, none⟩) l.length cap]).run Tryd.prog w.drew = .ok (.pointer (some ⟨g, 0, none⟩)) w.drew :=
    Lib.run_unsafeSliceData_row _ _ _ _ _ _ (by omega)
  have hUS : (Builtin.unsafeString_ #[83, 3] 9 #[.pointer (some ⟨g, 0, none⟩), .int .i64 l.length]).run Tryd.prog w.drew = .ok (.string ⟨l.toArray⟩) (w.drew.freeze ⟨g, 0, none⟩ l.length) := by
    refine Lib.run_unsafeString_row w.drew 83 3 9 5 Tryd.underlying83 (by kernel_rfl) g n hsh l h0 (by omega) (by unfold maxLen at hmax; omega) ?_
    intro j x hx
    have hadd : (⟨g, 0, none⟩ : Addr).add j = ⟨g, j, none⟩ := by unfold Addr.add; split <;> simp_all
    rw [hadd]
    exact hcs j x hx
  have mixed : Tryd.prog.follows .mixedOrders = true := by kernel_rfl
  have t57 := Tryd.underlying57; have a57 := Tryd.isAgg57; have z57 := Tryd.sizeOf57; have v57 := Tryd.zeroValue57; have u57 := run_underlying Tryd.underlying57
  have t54 := Tryd.underlying54; have a54 := Tryd.isAgg54; have z54 := Tryd.sizeOf54; have v54 := Tryd.zeroValue54; have u54 := run_underlying Tryd.underlying54
  have t55 := Tryd.underlying55; have a55 := Tryd.isAgg55; have z55 := Tryd.sizeOf55; have v55 := Tryd.zeroValue55; have u55 := run_underlying Tryd.underlying55
  have t83 := Tryd.underlying83; have a83 := Tryd.isAgg83; have z83 := Tryd.sizeOf83; have v83 := Tryd.zeroValue83; have u83 := run_underlying Tryd.underlying83
  have t3 := Tryd.underlying3; have a3 := Tryd.isAgg3; have z3 := Tryd.sizeOf3; have v3 := Tryd.zeroValue3; have u3 := run_underlying Tryd.underlying3
  have t9 := Tryd.underlying9; have a9 := Tryd.isAgg9; have z9 := Tryd.sizeOf9; have v9 := Tryd.zeroValue9; have u9 := run_underlying Tryd.underlying9
  have t5 := Tryd.underlying5; have a5 := Tryd.isAgg5; have z5 := Tryd.sizeOf5; have v5 := Tryd.zeroValue5; have u5 := run_underlying Tryd.underlying5
  go_enter Tryd.func17, Tryd.ntmps17
  go_wp2
  go_region_o
  all_goals (go_wp2; go_ret; exact ⟨rfl, rfl⟩)
end Go.Proofs.Tryd
namespace Go.Proofs.Ev
set_option linter.unusedSimpArgs false
set_option linter.unusedVariables false
open Go
theorem ACalls.ofT {P : Program} {Γ : List (Nat × List AV)} {f : FuncId} {fn : Func} {c : Code} {args : List AV} {σ : Sto} {R : AV → Sto → Prop} (hf : P.funcs[f]? = some fn) (hb : fn.body = some c)
    (h : AW .plain P Γ c (args ++ List.replicate (fn.ntmps - args.length) .any) σ (fun e env σ' => (e = .normal ∨ e = .ret) ∧ ∃ v, aReturn P fn σ' env = some v ∧ ∃ σ1 ρ, σ' = σ1 ++ ρ ∧ σ1.length = σ.length ∧ (∀ (i : Nat) (a : AO), σ1[i]? = some a → σ[i]? = some a ∨ a.bel σ.length = true) ∧ v.bel σ.length = true ∧ R v σ1)) : ACalls P Γ f args σ R :=
  ACalls.trunc (ACalls.of (R := fun v σ' => ∃ σ1 ρ, σ' = σ1 ++ ρ ∧ σ1.length = σ.length ∧ (∀ (i : Nat) (a : AO), σ1[i]? = some a → σ[i]? = some a ∨ a.bel σ.length = true) ∧ v.bel σ.length = true ∧ R v σ1) hf hb h) fun _ _ hr => hr
end Go.Proofs.Ev
/-! strings.Builder, as an object of the store: its text grows. -/
namespace Go.Proofs.Tryd
open Go Go.Proofs.Ev
namespace Pr
variable {Γ : List (Nat × List AV)}
abbrev i64 (n : Int) : AV := .val (.int .i64 n)
abbrev str (s : ByteArray) : AV := .val (.string s)
def bs (l : List UInt8) : ByteArray := ⟨l.toArray⟩
theorem bs_size (a : List UInt8) : (bs a).size = a.length := by simp [bs, ByteArray.size]
theorem bs_of (s : ByteArray) : bs s.data.toList = s := rfl
theorem bs_app (a b : List UInt8) : bs a ++ bs b = bs (a ++ b) := by
  apply ByteArray.ext
  simp [bs]
def byt (c : UInt8) : AV := .val (.int .u8 ((c.toNat : Nat) : Int))
/-- A builder's two cells. -/
def bp (o : Nat) (u : Bool) (t : List UInt8) : List AV := [bif u then .ref o 0 else .val (.pointer none), .slo true 1 (t.map byt) (o + 2)]
/-- A store in which a builder lies at o, that holds t; u: it has been used. -/
def pb (σ : Sto) (o : Nat) (u : Bool) (t : List UInt8) : Sto := (((σ.set o (.cells (bp o u t))).set (o + 1) (.gh (.shp o 59 2))).set (o + 2) (.cap t.length 1)).set (o + 3) (.gh (.cty (o + 2) t.length 5))
theorem pb_len (σ : Sto) (o : Nat) (u : Bool) (t : List UInt8) : (pb σ o u t).length = σ.length := by simp [pb]
theorem pb_get {σ : Sto} {o : Nat} (ho : o + 3 < σ.length) (u : Bool) (t : List UInt8) : (pb σ o u t)[o]? = some (.cells (bp o u t)) ∧ (pb σ o u t)[o + 1]? = some (.gh (.shp o 59 2)) ∧ (pb σ o u t)[o + 2]? = some (.cap t.length 1) ∧ (pb σ o u t)[o + 3]? = some (.gh (.cty (o + 2) t.length 5)) := by
  unfold pb
  refine ⟨?_, ?_, ?_, ?_⟩ <;> simp [List.getElem?_set] <;> omega
theorem pb_set0 (σ : Sto) (o : Nat) (u u' : Bool) (t : List UInt8) : (pb σ o u t).set o (.cells (bp o u' t)) = pb σ o u' t := by
  unfold pb
  rw [List.set_comm _ _ (show o + 3 ≠ o by omega), List.set_comm _ _ (show o + 2 ≠ o by omega), List.set_comm _ _ (show o + 1 ≠ o by omega), List.set_set]
theorem pb_set (σ : Sto) (o : Nat) (u u' : Bool) (t t' : List UInt8) : (((pb σ o u t).set (o + 2) (.cap t'.length 1)).set (o + 3) (.gh (.cty (o + 2) t'.length 5))).set o (.cells (bp o u' t')) = pb σ o u' t' := by
  unfold pb
  rw [List.set_comm _ _ (show o + 3 ≠ o + 2 by omega), List.set_set, List.set_set, List.set_comm _ _ (show o + 3 ≠ o by omega), List.set_comm _ _ (show o + 2 ≠ o by omega), List.set_comm _ _ (show o + 1 ≠ o by omega), List.set_set]
theorem pb_app {σ : Sto} {o : Nat} (ho : o + 3 < σ.length) (u : Bool) (t : List UInt8) (l : Sto) : pb (σ ++ l) o u t = pb σ o u t ++ l := by
  unfold pb
  rw [List.set_append_left _ _ (by omega), List.set_append_left _ _ (by simp; omega), List.set_append_left _ _ (by simp; omega), List.set_append_left _ _ (by simp; omega)]
theorem pb_geta (σ : Sto) (o : Nat) (u : Bool) (t : List UInt8) (l : Sto) (k : Nat) : (pb σ o u t ++ l)[σ.length + k]? = l[k]? := by
  rw [List.getElem?_append_right (by rw [pb_len]; omega), pb_len, Nat.add_sub_cancel_left]
theorem pb_geta0 (σ : Sto) (o : Nat) (u : Bool) (t : List UInt8) (l : Sto) : (pb σ o u t ++ l)[σ.length]? = l[0]? := pb_geta σ o u t l 0
theorem pb_seta (σ : Sto) (o : Nat) (u : Bool) (t : List UInt8) (l : Sto) (k : Nat) (x : AO) : (pb σ o u t ++ l).set (σ.length + k) x = pb σ o u t ++ l.set k x := by
  rw [List.set_append_right _ _ (by rw [pb_len]; omega), pb_len, Nat.add_sub_cancel_left]
theorem pb_seta0 (σ : Sto) (o : Nat) (u : Bool) (t : List UInt8) (l : Sto) (x : AO) : (pb σ o u t ++ l).set σ.length x = pb σ o u t ++ l.set 0 x := pb_seta σ o u t l 0 x
theorem bp_bel (o n : Nat) (u : Bool) (t : List UInt8) (h : o + 2 < n) : belL n (bp o u t) = true := by
  have hb : belL n (t.map byt) = true := by
    induction t with
    | nil => rfl
    | cons c t ih => simp [belL, byt, AV.bel, ih]
  cases u <;> simp [bp, belL, AV.bel, hb] <;> omega
theorem pb_keep {σ : Sto} {o : Nat} (ho : o + 3 < σ.length) {u u' : Bool} {t t' : List UInt8} (j : Nat) (a : AO) (h : (pb σ o u' t')[j]? = some a) : (pb σ o u t)[j]? = some a ∨ a.bel σ.length = true := by
  obtain ⟨h0, h1, h2, h3⟩ := pb_get ho u' t'
  by_cases e0 : j = o
  · subst e0
    rw [h0] at h
    cases h
    exact .inr (bp_bel _ _ _ _ (by omega))
  by_cases e1 : j = o + 1
  · subst e1
    rw [h1] at h
    cases h
    exact .inr (decide_eq_true (show o < σ.length by omega))
  by_cases e2 : j = o + 2
  · subst e2
    rw [h2] at h
    cases h
    exact .inr rfl
  by_cases e3 : j = o + 3
  · subst e3
    rw [h3] at h
    cases h
    exact .inr (decide_eq_true (show o + 2 < σ.length by omega))
  refine .inl ?_
  rw [← h]
  unfold pb
  simp only [List.getElem?_set]
  rw [if_neg (fun e => e3 e.symm), if_neg (fun e => e2 e.symm), if_neg (fun e => e1 e.symm), if_neg (fun e => e0 e.symm), if_neg (fun e => e3 e.symm), if_neg (fun e => e2 e.symm), if_neg (fun e => e1 e.symm), if_neg (fun e => e0 e.symm)]
theorem pb_keep2 {σ : Sto} {o : Nat} (ho : o + 3 < σ.length) {u u' u2 : Bool} {t t' t2 : List UInt8} (j : Nat) (a : AO) (h : (pb σ o u' t')[j]? = some a) : (pb σ o u t)[j]? = some a ∨ a.bel (pb σ o u2 t2).length = true := by
  rw [pb_len]
  exact pb_keep ho j a h
theorem pb_keepL {σ : Sto} {o n : Nat} (ho : o + 3 < σ.length) (hn : σ.length ≤ n) {u u' : Bool} {t t' : List UInt8} (l : Sto) (j : Nat) (a : AO) (h : (pb σ o u' t' ++ l)[j]? = some a) : (pb σ o u t ++ l)[j]? = some a ∨ a.bel n = true := by
  by_cases hj : j < σ.length
  · rw [List.getElem?_append_left (by rw [pb_len]; exact hj)] at h ⊢
    rcases pb_keep (u := u) (t := t) ho j a h with h1 | h1
    · exact .inl h1
    · exact .inr (bel_le hn h1)
  · rw [List.getElem?_append_right (by rw [pb_len]; omega), pb_len] at h ⊢
    exact .inl h
/-- copyCheck: the builder has been used. -/
theorem copy_calls {σ : Sto} {o : Nat} (ho : o + 3 < σ.length) (u : Bool) (t : List UInt8) : ACalls prog Γ 69 [.ref o 0] (pb σ o u t) (fun v σ' => v = .tup [] ∧ σ' = pb σ o true t) := by
  intro C xs hσ hS hG hL
  obtain ⟨h0, h1, h2, h3⟩ := pb_get ho u t
  rw [← hσ] at h0 h1
  match xs, hL with
  | [x], hL =>
    obtain ⟨⟨_, hx⟩, _⟩ := hL
    subst hx
    obtain ⟨arr, T, hb, hn, hl, hone⟩ := hS.cells o _ h0
    obtain ⟨y, g1, g2⟩ := relL_get hl (i := 0) (c := bif u then .ref o 0 else .val (.pointer none)) (by cases u <;> rfl)
    have hsz : 0 < arr.size := Nat.lt_of_lt_of_le (by simp [bp]) hn
    have hc : C.w.cell? ⟨C.φ o, 0, none⟩ = some y := by
      rw [cell_of_row _ _ _ _ _ _ hb]
      rw [List.getElem?_take, if_pos (by simp [bp])] at g1
      simpa using g1
    cases u with
    | true =>
      obtain ⟨_, e⟩ := g2
      subst e
      refine (copy_used (C.φ o) C.w hc).mono ?_
      rintro e w' ⟨rfl, rfl⟩
      exact ⟨C, .tuple #[], .tup [], rfl, rfl, Ext.refl _, hS, ⟨[], rfl, trivial⟩, rfl, hσ⟩
    | false =>
      have e : y = .pointer none := g2
      subst e
      obtain ⟨_, arr', fr, q1, q2⟩ := hS.gh (o + 1) _ h1
      rw [hb] at q1
      cases q1
      have hfz : C.w.frozen? ⟨C.φ o, 0, none⟩ = false := by simp [World.frozen?, hb]
      refine (copy_fresh (C.φ o) C.w hc (by simp [World.shape?, hb, q2]) hfz).mono ?_
      rintro e w' ⟨rfl, rfl⟩
      have hlen : (bp o true t).length = 2 := rfl
      have hb2 : (arr.setIfInBounds 0 (.pointer (some ⟨C.φ o, 0, none⟩))).toList.take 2 = (arr.toList.take 2).set 0 (.pointer (some ⟨C.φ o, 0, none⟩)) := by
        rw [Array.toList_setIfInBounds, List.take_set]
      have hp := put_cells (C := C) hS (o := o) (cs := bp o true t) (arr := arr.setIfInBounds 0 (.pointer (some ⟨C.φ o, 0, none⟩))) (T := 59) h0 ⟨arr, hb, by simp⟩ (by
        rw [hlen, hb2]
        exact relL_set (cs := bp o false t) (i := 0) hl ⟨⟨_, h0, rfl⟩, rfl⟩) (by rw [hlen]; simp; omega) (fun v hv => by
        rw [Array.toList_setIfInBounds] at hv
        rcases List.mem_or_eq_of_mem_set hv with hv | rfl
        · exact hone v hv
        · rfl)
      refine ⟨_, .tuple #[], .tup [], rfl, ?_, hp.1, hp.2, ⟨[], rfl, trivial⟩, rfl, ?_⟩
      · rw [setCell_eq_setRow _ _ _ _ _ _ _ hb, setRow_eq _ _ _ _ _ _ hb]
        rfl
      · show C.σ.set o _ = _
        rw [hσ]
        exact pb_set0 ..
end Pr
end Go.Proofs.Tryd
/-! strings.Builder's String. -/
namespace Go.Proofs.Tryd
set_option linter.unusedSimpArgs false
set_option linter.unusedVariables false
open Go Go.Proofs.Ev
namespace Pr
variable {Γ : List (Nat × List AV)}
theorem string_calls {σ : Sto} {o : Nat} (ho : o + 3 < σ.length) (u : Bool) (t : List UInt8) : ACalls prog Γ 17 [.ref o 0] (pb σ o u t) (fun v σ' => v = str (bs t) ∧ σ' = pb σ o u t) := by
  intro C xs hσ hS hG hL
  obtain ⟨h0, h1, h2, h3⟩ := pb_get ho u t
  rw [← hσ] at h0 h2 h3
  match xs, hL with
  | [x], hL =>
    obtain ⟨⟨_, hx⟩, _⟩ := hL
    subst hx
    obtain ⟨arr, T, hb, hn, hl, hone⟩ := hS.cells o _ h0
    obtain ⟨y, g1, g2⟩ := relL_get hl (i := 1) (c := .slo true 1 (t.map byt) (o + 2)) rfl
    have hc : C.w.cell? ⟨C.φ o, 1, none⟩ = some y := by
      rw [cell_of_row _ _ _ _ _ _ hb]
      rw [List.getElem?_take, if_pos (by simp [bp])] at g1
      simpa using g1
    obtain ⟨n, q1, q2, q3, q4, q5⟩ := g2
    rw [h2] at q1
    cases q1
    by_cases ht : t = []
    · subst ht
      obtain ⟨A, rfl, hA, _⟩ := q4 rfl
      have hA : A = none := by simpa using hA
      subst hA
      refine (str_nil (C.φ o) C.w hc).mono ?_
      rintro e w' ⟨rfl, rfl⟩
      exact ⟨C.drew, _, str (bs []), rfl, rfl, drew_ext C, drew_rel hS, rfl, rfl, hσ⟩
    · have hne : t.map byt ≠ [] := by simpa using ht
      obtain ⟨b, off, c, rfl, k1, k2, k3, k4⟩ := q5 hne
      obtain ⟨rfl, rfl, arr2, T2, fr, k5, k6⟩ := k3 (by simp)
      have hpos : 0 < t.length := List.length_pos_iff.2 ht
      obtain ⟨n0, sz, c1, c2, c3⟩ := hS.gh (o + 3) _ h3
      rw [h2] at c1
      cases c1
      obtain ⟨arr3, fr3, c4⟩ := c3 rfl hpos
      rw [k5] at c4
      cases c4
      obtain ⟨ar, T', f', d1, d2, d3, d4⟩ := hS.cap (o + 2) _ _ h2 hpos
      rw [k5] at d1
      cases d1
      simp only [List.length_map] at k1 k6 hc
      have hcell : ∀ (j : Nat) (x : UInt8), t[j]? = some x → C.w.cell? ⟨C.φ (o + 2), j, none⟩ = some (.int .u8 x.toNat) := by
        intro j x hx
        obtain ⟨_, r2⟩ := relRow_get k4 (j := j) (e := byt x) (by rw [List.getElem?_map, hx]; rfl)
        obtain ⟨⟨v, r3, _, r4⟩, _⟩ := r2
        rw [Nat.zero_add, Nat.mul_one] at r3
        rw [r3]
        exact congrArg some r4
      refine (str_row (C.φ o) (C.φ (o + 2)) c arr2.size t C.w hc ht k1 k2 (by simp [World.shape?, k5]) (by omega) hcell).mono ?_
      rintro e w' ⟨rfl, rfl⟩
      have hb' : C.drew.w.heap[C.drew.φ (o + 2)]? = some (.cells arr2 5 fr) := k5
      have hf := frez_ok (C := C.drew) (drew_rel hS) (k := o + 2) (fr' := if fr.1 == fr.2 then (0, 0 + t.length) else (min fr.1 0, max fr.2 (0 + t.length))) h2 hpos (by decide) hb' (by
        split
        · simp
        · simp only
          omega)
      refine ⟨_, _, str (bs t), rfl, ?_, (drew_ext C).trans hf.1, hf.2, rfl, rfl, hσ⟩
      exact (freeze_eq (w := C.w.drew) k5 (by omega)).symm
end Pr
end Go.Proofs.Tryd
/-! The library's contracts at this program, as the kit's tools lay them (lay-shelf.mjs, lay-plain.mjs): those that are used. -/
namespace Go.Proofs
set_option linter.unusedSimpArgs false
set_option linter.unusedVariables false
open Go.Shelf Go.RowKit Go.Sort Go.Lib
def Tryd.lays156_ren : Go.Shelf.Ren := ⟨fun | 156 => 36 | 165 => 54 | 166 => 53 | 169 => 17 | 240 => 69 | 241 => 70 | 276 => 79 | 277 => 80 | n => n, fun | 31 => 51 | 9 => 9 | 3 => 3 | 4 => 4 | 0 => 0 | 20 => 20 | 72 => 57 | 76 => 102 | 70 => 54 | 37 => 55 | 75 => 101 | 127 => 83 | 164 => 126 | 5 => 5 | 80 => 65 | n => n, fun | n => n⟩
theorem Tryd.lays156 : Go.Proofs.Lays.n156 Tryd.prog Tryd.lays156_ren := {
  mixed := by kernel_rfl
  f156 := Tryd.func36.trans (congrArg some (by kernel_rfl))
  f165 := Tryd.func54.trans (congrArg some (by kernel_rfl))
  f166 := Tryd.func53.trans (congrArg some (by kernel_rfl))
  f169 := Tryd.func17.trans (congrArg some (by kernel_rfl))
  f240 := Tryd.func69.trans (congrArg some (by kernel_rfl))
  f241 := Tryd.func70.trans (congrArg some (by kernel_rfl))
  f276 := Tryd.func79.trans (congrArg some (by kernel_rfl))
  f277 := Tryd.func80.trans (congrArg some (by kernel_rfl))
  t0 := Tryd.underlying0
  a0 := Tryd.isAgg0
  z0 := Tryd.sizeOf0
  v0 := Tryd.zeroValue0
  t3 := Tryd.underlying3
  a3 := Tryd.isAgg3
  z3 := Tryd.sizeOf3
  v3 := Tryd.zeroValue3
  t4 := Tryd.underlying4
  a4 := Tryd.isAgg4
  z4 := Tryd.sizeOf4
  v4 := Tryd.zeroValue4
  t9 := Tryd.underlying9
  a9 := Tryd.isAgg9
  z9 := Tryd.sizeOf9
  v9 := Tryd.zeroValue9
  t20 := Tryd.underlying20
  a20 := Tryd.isAgg20
  z20 := Tryd.sizeOf20
  v20 := Tryd.zeroValue20
  t31 := Tryd.underlying51
  a31 := Tryd.isAgg51
  z31 := Tryd.sizeOf51
  v31 := Tryd.zeroValue51
  t37 := Tryd.underlying55
  a37 := Tryd.isAgg55
  z37 := Tryd.sizeOf55
  v37 := Tryd.zeroValue55
  t70 := Tryd.underlying54
  a70 := Tryd.isAgg54
  z70 := Tryd.sizeOf54
  v70 := Tryd.zeroValue54
  t72 := Tryd.underlying57
  a72 := Tryd.isAgg57
  z72 := Tryd.sizeOf57
  v72 := Tryd.zeroValue57
  t75 := Tryd.underlying101
  a75 := Tryd.isAgg101
  z75 := Tryd.sizeOf101
  v75 := Tryd.zeroValue101
  t76 := Tryd.underlying102
  a76 := Tryd.isAgg102
  z76 := Tryd.sizeOf102
  v76 := Tryd.zeroValue102
  t127 := Tryd.underlying83
  a127 := Tryd.isAgg83
  z127 := Tryd.sizeOf83
  v127 := Tryd.zeroValue83
  t164 := Tryd.underlying126
  a164 := Tryd.isAgg126
  z164 := Tryd.sizeOf126
  v164 := Tryd.zeroValue126 }
theorem Tryd.Builder_Extra_156 : Builder.Extra Tryd.prog Tryd.lays156_ren := {
  sizeBuilder := by kernel_rfl
  liesBuilder := by kernel_rfl
  t5 := Tryd.underlying5
  a5 := Tryd.isAgg5
  z5 := Tryd.sizeOf5
  v5 := Tryd.zeroValue5
  infoByte := by kernel_rfl
  cellsByte := by kernel_rfl
  sizeByte := by kernel_rfl
  neB5 := by decide }
theorem Tryd.strings_Join_none (a : Option Addr) (c : Nat) (sep : ByteArray) (w : World) :
    Calls Tryd.prog 36 #[.slice a 0 c, .string sep] w fun e w' => e = .returned (.string ⟨#[]⟩) ∧ w' = w := Any.strings_Join_none Tryd.lays156 Tryd.Builder_Extra_156 a c sep w
theorem Tryd.strings_Join (bk o c : Nat) (xs : List ByteArray) (sep : ByteArray) (w : World) (hcells : ∀ (j : Nat) x, xs[j]? = some x → w.cell? ⟨bk, o + j, none⟩ = some (.string x)) (hbk : bk < w.heap.size) (hN : xs.length ≤ 140737488355328) (hcap : xs.length ≤ c) (hlen : (Lib.join (xs.map (·.data.toList)) sep.data.toList).length ≤ 140737488355328) :
    Calls Tryd.prog 36 #[.slice (some ⟨bk, o, none⟩) xs.length c, .string sep] w fun e w' => e = .returned (.string ⟨(Lib.join (xs.map (·.data.toList)) sep.data.toList).toArray⟩) ∧ Below w.heap.size w w' := Any.strings_Join Tryd.lays156 Tryd.Builder_Extra_156 bk o c xs sep w hcells hbk hN hcap hlen

def Tryd.lays121_ren : Go.Shelf.Ren := ⟨fun | 121 => 44 | 214 => 61 | n => n, fun | 4 => 4 | 9 => 9 | n => n, fun | n => n⟩
theorem Tryd.lays121 : Go.Proofs.Lays.n121 Tryd.prog Tryd.lays121_ren := {
  mixed := by kernel_rfl
  f121 := Tryd.func44.trans (congrArg some (by kernel_rfl))
  f214 := Tryd.func61.trans (congrArg some (by kernel_rfl))
  t4 := Tryd.underlying4
  a4 := Tryd.isAgg4
  z4 := Tryd.sizeOf4
  v4 := Tryd.zeroValue4
  t9 := Tryd.underlying9
  a9 := Tryd.isAgg9
  z9 := Tryd.sizeOf9
  v9 := Tryd.zeroValue9 }
theorem Tryd.strconv_FormatBool (b : Bool) (w : World) :
    Calls Tryd.prog 44 #[.bool b] w fun e w' => e = .returned (.string ⟨(Lib.formatBool b).toArray⟩) ∧ w' = w := Any.strconv_FormatBool Tryd.lays121 b w

def Tryd.laysM173_ren : Go.Shelf.Ren := ⟨fun | 173 => 43 | 246 => 60 | 283 => 72 | 284 => 73 | 285 => 74 | 286 => 75 | 129 => 82 | 317 => 81 | 318 => 83 | 319 => 84 | 320 => 85 | 337 => 86 | 338 => 87 | n => n, fun | 2 => 2 | 3 => 3 | 9 => 9 | 4 => 4 | 171 => 116 | 0 => 0 | 53 => 117 | 37 => 55 | 5 => 5 | 173 => 120 | 212 => 130 | 51 => 131 | 20 => 20 | 213 => 132 | 46 => 134 | 232 => 137 | 233 => 138 | n => n, fun | 17 => 2 | 18 => 4 | 19 => 5 | n => n⟩
theorem Tryd.laysM173 : Go.Proofs.LaysM.n173 Tryd.prog Tryd.laysM173_ren := {
  mixed := by kernel_rfl
  f129 := Tryd.func82.trans (congrArg some (by kernel_rfl))
  f173 := Tryd.func43.trans (congrArg some (by kernel_rfl))
  f246 := Tryd.func60.trans (congrArg some (by kernel_rfl))
  f283 := Tryd.func72.trans (congrArg some (by kernel_rfl))
  f284 := Tryd.func73.trans (congrArg some (by kernel_rfl))
  f285 := Tryd.func74.trans (congrArg some (by kernel_rfl))
  f286 := Tryd.func75.trans (congrArg some (by kernel_rfl))
  f317 := Tryd.func81.trans (congrArg some (by kernel_rfl))
  f318 := Tryd.func83.trans (congrArg some (by kernel_rfl))
  f319 := Tryd.func84.trans (congrArg some (by kernel_rfl))
  f320 := Tryd.func85.trans (congrArg some (by kernel_rfl))
  f337 := Tryd.func86.trans (congrArg some (by kernel_rfl))
  f338 := Tryd.func87.trans (congrArg some (by kernel_rfl))
  t0 := Tryd.underlying0
  a0 := Tryd.isAgg0
  z0 := Tryd.sizeOf0
  v0 := Tryd.zeroValue0
  t2 := Tryd.underlying2
  a2 := Tryd.isAgg2
  z2 := Tryd.sizeOf2
  v2 := Tryd.zeroValue2
  t3 := Tryd.underlying3
  a3 := Tryd.isAgg3
  z3 := Tryd.sizeOf3
  v3 := Tryd.zeroValue3
  t4 := Tryd.underlying4
  a4 := Tryd.isAgg4
  z4 := Tryd.sizeOf4
  v4 := Tryd.zeroValue4
  t5 := Tryd.underlying5
  a5 := Tryd.isAgg5
  z5 := Tryd.sizeOf5
  v5 := Tryd.zeroValue5
  t9 := Tryd.underlying9
  a9 := Tryd.isAgg9
  z9 := Tryd.sizeOf9
  v9 := Tryd.zeroValue9
  t20 := Tryd.underlying20
  a20 := Tryd.isAgg20
  z20 := Tryd.sizeOf20
  v20 := Tryd.zeroValue20
  t37 := Tryd.underlying55
  a37 := Tryd.isAgg55
  z37 := Tryd.sizeOf55
  v37 := Tryd.zeroValue55
  t46 := Tryd.underlying134
  a46 := Tryd.isAgg134
  z46 := Tryd.sizeOf134
  v46 := Tryd.zeroValue134
  t51 := Tryd.underlying131
  a51 := Tryd.isAgg131
  z51 := Tryd.sizeOf131
  v51 := Tryd.zeroValue131
  t53 := Tryd.underlying117
  a53 := Tryd.isAgg117
  z53 := Tryd.sizeOf117
  v53 := Tryd.zeroValue117
  t171 := Tryd.underlying116
  a171 := Tryd.isAgg116
  z171 := Tryd.sizeOf116
  v171 := Tryd.zeroValue116
  t173 := Tryd.underlying120
  a173 := Tryd.isAgg120
  z173 := Tryd.sizeOf120
  v173 := Tryd.zeroValue120
  t212 := Tryd.underlying130
  a212 := Tryd.isAgg130
  z212 := Tryd.sizeOf130
  v212 := Tryd.zeroValue130
  t213 := Tryd.underlying132
  a213 := Tryd.isAgg132
  z213 := Tryd.sizeOf132
  t232 := Tryd.underlying137
  a232 := Tryd.isAgg137
  z232 := Tryd.sizeOf137
  v232 := Tryd.zeroValue137
  t233 := Tryd.underlying138
  a233 := Tryd.isAgg138
  z233 := Tryd.sizeOf138
  v233 := Tryd.zeroValue138
  g17 := by kernel_rfl
  g18 := by kernel_rfl
  g19 := by kernel_rfl
  i0 := by kernel_rfl
  i2 := by kernel_rfl
  i3 := by kernel_rfl
  i4 := by kernel_rfl
  i5 := by kernel_rfl
  i9 := by kernel_rfl
  i20 := by kernel_rfl
  i37 := by kernel_rfl
  i46 := by kernel_rfl
  i51 := by kernel_rfl
  i53 := by kernel_rfl
  i171 := by kernel_rfl
  i173 := by kernel_rfl
  i212 := by kernel_rfl
  i232 := by kernel_rfl
  i233 := by kernel_rfl
  m17 := by kernel_rfl
  m18 := by kernel_rfl
  m19 := by kernel_rfl }
theorem Tryd.strconv_FormatInt_10 (n : Int) (h0 : -9223372036854775808 ≤ n) (h1 : n ≤ 9223372036854775807) (w : World) (htab : Lib.TabIs Tryd.prog w "internal/strconv.uint64pow10" .u64 Lib.pow10Tab) :
    Calls Tryd.prog 43 #[.int .i64 n, .int .i64 10] w fun e w' => e = .returned (.string ⟨(Lib.itoa n).toArray⟩) ∧ ∃ k os, w' = grow (w.drewN k) os := Any.strconv_FormatInt_10 Tryd.laysM173 n h0 h1 w htab

end Go.Proofs
/-! What the printer takes of the library, told abstractly: numbers, truths, texts that are joined. -/
namespace Go.Proofs.Tryd
set_option linter.unusedSimpArgs false
set_option linter.unusedVariables false
open Go Go.Proofs.Ev Go.RowKit
namespace Pr
variable {Γ : List (Nat × List AV)}
def powV : List Value := Lib.pow10Tab.map fun z => .int .u64 z
/-- The table of powers stands there. -/
def Tab (Γ : List (Nat × List AV)) : Prop := (2, powV.map AV.val) ∈ Γ
theorem gPow : prog.globalNamed "internal/strconv.uint64pow10" = some 2 := by kernel_rfl
theorem tab_ok (hΓ : Tab Γ) {C : Ctx} (hG : RelG C Γ) : Lib.TabIs prog C.w "internal/strconv.uint64pow10" .u64 Lib.pow10Tab := by
  obtain ⟨T, fr, h⟩ := relG_table hG hΓ (by decide)
  unfold Lib.TabIs World.var?
  rw [gPow]
  simp only [Option.bind_some, h]
  rfl
theorem below_grow (w : World) (k : Nat) (os : Array Obj) : Below w.heap.size w (Sort.grow (w.drewN k) os) := by
  refine ⟨rfl, rfl, rfl, ?_, fun b hb => ?_⟩
  · show _ ≤ (w.heap ++ os).size
    simp
  · show (w.heap ++ os)[b]? = _
    rw [Array.getElem?_append_left hb]
theorem fmtInt_calls (hΓ : Tab Γ) (n : Int) (h0 : -9223372036854775808 ≤ n) (h1 : n ≤ 9223372036854775807) : APure prog Γ 43 [i64 n, i64 10] (str (bs (Lib.itoa n))) := by
  refine APure.below fun C xs hG hL => ?_
  match xs, hL with
  | [x, y], hL =>
    obtain ⟨hx, hy, _⟩ := hL
    cases hx
    cases hy
    refine (Tryd.strconv_FormatInt_10 n h0 h1 C.w (tab_ok hΓ hG)).mono ?_
    rintro e w' ⟨rfl, k, os, rfl⟩
    exact ⟨_, rfl, below_grow _ _ _, fun _ => rfl⟩
def truthT (b : Bool) : List UInt8 := if b then [116, 114, 117, 101] else [102, 97, 108, 115, 101]
theorem fmtBool_calls (b : Bool) : APure prog Γ 44 [.val (.bool b)] (str (bs (truthT b))) := by
  refine APure.quiet fun C xs hG hL => ?_
  match xs, hL with
  | [x], hL =>
    obtain ⟨hx, _⟩ := hL
    cases hx
    refine ⟨_, Tryd.strconv_FormatBool b C.w, fun D => ?_⟩
    cases b <;> rfl
theorem row_cells {C : Ctx} {xs : List (List UInt8)} {b off : Nat} (h : RelRow C (xs.map fun x => str (bs x)) b off 1) : ∀ (j : Nat) (x : ByteArray), (xs.map bs)[j]? = some x → C.w.cell? ⟨b, off + j, none⟩ = some (.string x) := by
  intro j x hx
  rw [List.getElem?_map] at hx
  obtain ⟨y, hy, rfl⟩ := Option.map_eq_some_iff.1 hx
  obtain ⟨_, r⟩ := relRow_get h (j := j) (e := str (bs y)) (by rw [List.getElem?_map, hy]; rfl)
  obtain ⟨⟨v, r3, _, r4⟩, _⟩ := r
  rw [Nat.mul_one] at r3
  rw [r3]
  exact congrArg some r4
theorem map_bs (xs : List (List UInt8)) : (xs.map bs).map (·.data.toList) = xs := by
  rw [List.map_map]
  conv => rhs; rw [← List.map_id xs]
  rfl
theorem join_row {C : Ctx} {xs : List (List UInt8)} {sep : List UInt8} {b off c : Nat} (hne : xs ≠ []) (h : RelRow C (xs.map fun x => str (bs x)) b off 1) (hN : xs.length ≤ 140737488355328) (hc : xs.length ≤ c) (hlen : (sep.intercalate xs).length ≤ 140737488355328) :
    Calls prog 36 #[.slice (some ⟨b, off, none⟩) xs.length c, .string (bs sep)] C.w fun e w' => e = .returned (.string (bs (sep.intercalate xs))) ∧ Below C.w.heap.size C.w w' := by
  have hb : b < C.w.heap.size := by
    obtain ⟨x, r, rfl⟩ := List.exists_cons_of_ne_nil hne
    rw [List.map_cons] at h
    have := (relRow_cons.1 h).2.1
    exact this.2.1.1
  have := Tryd.strings_Join b off c (xs.map bs) (bs sep) C.w (row_cells h) hb (by simpa using hN) (by simpa using hc) (by rw [map_bs]; exact hlen)
  rw [map_bs, List.length_map] at this
  exact this
theorem join_calls (nl : Bool) (xs : List (List UInt8)) (sep : List UInt8) (hN : xs.length ≤ 140737488355328) (hlen : (sep.intercalate xs).length ≤ 140737488355328) :
    APure prog Γ 36 [rowAV 1 nl (xs.map fun x => str (bs x)), str (bs sep)] (str (bs (sep.intercalate xs))) := by
  refine APure.below fun C ys hG hL => ?_
  match ys, hL with
  | [x, y], hL =>
    obtain ⟨hx, hy, _⟩ := hL
    cases hy
    have none : ∀ (a : Option Addr) (c : Nat), Calls prog 36 #[.slice a 0 c, .string (bs sep)] C.w fun e w' => ∃ x, e = .returned x ∧ Below C.w.heap.size C.w w' ∧ ∀ D : Ctx, RelV D (str (bs (sep.intercalate []))) x := fun a c => by
      refine (Tryd.strings_Join_none a c (bs sep) C.w).mono ?_
      rintro e w' ⟨rfl, rfl⟩
      exact ⟨_, rfl, Below.refl _ _, fun _ => rfl⟩
    cases xs with
    | nil =>
      cases nl with
      | true =>
        cases hx
        exact none _ _
      | false =>
        obtain ⟨b, off, c, s, rfl, _⟩ := hx
        exact none _ _
    | cons a r =>
      obtain ⟨b, off, c, s, rfl, hs, h1, h2, hr⟩ := hx
      obtain rfl : s = Option.none := hs.resolve_left (by simp)
      have := join_row (xs := a :: r) (sep := sep) (c := c) (by simp) hr hN (by simpa using h1) hlen
      simp only [List.length_map, List.length_cons] at this ⊢
      refine this.mono ?_
      rintro e w' ⟨rfl, hb⟩
      exact ⟨_, rfl, hb, fun _ => rfl⟩
/-- .. of a row with the right to append. -/
theorem joino_calls {σ : Sto} {k : Nat} (xs : List (List UInt8)) (sep : List UInt8) (hN : xs.length ≤ 140737488355328) (hlen : (sep.intercalate xs).length ≤ 140737488355328) :
    APure prog Γ 36 [.slo true 1 (xs.map fun x => str (bs x)) k, str (bs sep)] (str (bs (sep.intercalate xs))) := by
  refine APure.below fun C ys hG hL => ?_
  match ys, hL with
  | [x, y], hL =>
    obtain ⟨hx, hy, _⟩ := hL
    cases hy
    obtain ⟨n, q1, q2, q3, q4, q5⟩ := hx
    by_cases hne : xs = []
    · subst hne
      obtain ⟨A, rfl, hA, _⟩ := q4 rfl
      refine (Tryd.strings_Join_none A 0 (bs sep) C.w).mono ?_
      rintro e w' ⟨rfl, rfl⟩
      exact ⟨_, rfl, Below.refl _ _, fun _ => rfl⟩
    · obtain ⟨b, off, c, rfl, k1, k2, k3, k4⟩ := q5 (by simpa using hne)
      have := join_row (xs := xs) (sep := sep) (c := c) hne k4 hN (by simpa using k1) hlen
      simp only [List.length_map] at this ⊢
      refine this.mono ?_
      rintro e w' ⟨rfl, hb⟩
      exact ⟨_, rfl, hb, fun _ => rfl⟩
end Pr
end Go.Proofs.Tryd
/-! Printing: function 53. -/
namespace Go.Proofs.Tryd
set_option linter.unusedSimpArgs false
set_option linter.unusedVariables false
open Go Go.Proofs.Ev
namespace Pr
variable {Γ : List (Nat × List AV)}
set_option maxRecDepth 100000 in
theorem write_calls {σ : Sto} {o : Nat} (ho : o + 3 < σ.length) (u : Bool) (t s : List UInt8) (hf : t.length + s.length ≤ 140737488355328) : ACalls prog Γ 53 [.ref o 0, str (bs s)] (pb σ o u t) (fun v σ' => v = .tup [i64 (s.length : Nat), .val .nilIface] ∧ σ' = pb σ o true (t ++ s)) := by
  refine ACalls.ofT func53 rfl ?_
  simp only [ntmps53, List.length_cons, List.length_nil, Nat.reduceAdd, Nat.reduceSub, List.replicate_succ, List.replicate_zero, List.cons_append, List.nil_append]
  obtain ⟨h0, h1, h2, h3⟩ := pb_get ho true t
  refine AW.regl false [4, 5] (by rfl) fun K1 hK1 => ?_ -- region 0
  simp only [go_sem, Nat.reduceAdd, Nat.reduceEqDiff, Nat.reduceLeDiff, true_and, bs_size]
  refine hK1 _ _ ?_; try clear hK1 K1
  conv => enter [5]; simp only [setL_cons, setL_nil, List.set_cons_zero, List.set_cons_succ]
  refine AW.regl false [] (by rfl) fun K2 hK2 => ?_ -- region 1
  simp only [go_sem, Nat.reduceAdd, Nat.reduceEqDiff, Nat.reduceLeDiff, true_and, bs_size]
  refine sC.ofR en69 (copy_calls ho u t) (fun v' σ' hR => ?_)
  obtain ⟨rfl, rfl⟩ := hR
  simp only [go_sem, Nat.reduceAdd, Nat.reduceEqDiff, Nat.reduceLeDiff, true_and, bs_size]
  refine hK2 _ _ ?_; try clear hK2 K2
  conv => enter [5]; simp only [setL_cons, setL_nil, List.set_cons_zero, List.set_cons_succ]
  refine AW.seq (AW.region ?_) -- region 2
  refine AOps.op (md := false) rfl rfl ?_
  refine AOps.op (md := false) rfl rfl ?_
  refine AOps.op (md := false) rfl rfl ?_
  refine AOps.op (md := false) (v := .ref o 1) rfl (show (aFieldAddr prog 57 1 (.ref o 0)).map (·, _) = _ by rw [fA57_1]; rfl) ?_
  have hld : aLoad prog (pb σ o true t) 55 (.ref o 1) = some (.slo true 1 (t.map byt) (o + 2)) := by
    simp only [aLoad, h0]
    exact get55 _ _
  refine AOps.op (md := false) (v := .slo true 1 (t.map byt) (o + 2)) rfl (show (aLoad prog (pb σ o true t) 55 (.ref o 1)).map (·, pb σ o true t) = _ by rw [hld]; rfl) ?_
  refine AOps.op (md := false) rfl rfl ?_
  obtain ⟨S1, hS1⟩ : ∃ z, z = if s.length = 0 then pb σ o true t else (pb σ o true t).set (o + 2) (.cap (t ++ s).length 1) := ⟨_, rfl⟩
  have hap : aAppendO prog (pb σ o true t) 55 9 true 1 (t.map byt) (o + 2) (str (bs s)) = some (.slo true 1 ((t ++ s).map byt) (o + 2), S1) := by
    have hsrc : aSrcE prog 9 1 (str (bs s)) = some (s.map byt) := by
      unfold aSrcE
      rw [underlying9]
      rfl
    rw [app55, hsrc]
    simp only [Option.bind_some, h2, appAt, List.length_map]
    rw [if_pos ⟨trivial, trivial, by simp only [fits, Bool.and_eq_true, decide_eq_true_eq]; omega⟩, hS1]
    split
    · rename_i e
      rw [List.eq_nil_of_length_eq_zero e, List.append_nil]
    · rw [List.map_append, List.length_append]
  have hfin : (S1.set (o + 3) (.gh (.cty (o + 2) ((t ++ s).map byt).length 5))).set o (.cells (bp o true (t ++ s))) = pb σ o true (t ++ s) := by
    rw [List.length_map, ← pb_set σ o true true t (t ++ s), hS1]
    split
    · rename_i e
      have : (pb σ o true t).set (o + 2) (.cap (t ++ s).length 1) = pb σ o true t := by
        rw [List.eq_nil_of_length_eq_zero e, List.append_nil]
        exact set_self h2
      rw [this]
    · rfl
  have hob : (S1.set (o + 3) (.gh (.cty (o + 2) ((t ++ s).map byt).length 5)))[o]? = some (.cells (bp o true t)) := by
    rw [List.getElem?_set, if_neg (by omega), hS1]
    split
    · exact h0
    · rw [List.getElem?_set, if_neg (by omega)]
      exact h0
  refine AOps.appT rfl rfl rfl hap underlying55 (g := o + 3) (by rw [List.length_map]; exact h3) ?_
  refine AOps.op (md := false) rfl rfl ?_
  refine AOps.op (md := false) (v := .ref o 1) rfl (show (aFieldAddr prog 57 1 (.ref o 0)).map (·, _) = _ by rw [fA57_1]; rfl) ?_
  refine AOps.op (md := false) (v := .any) (σ' := pb σ o true (t ++ s)) rfl (show (aStore prog _ 55 (.slo true 1 ((t ++ s).map byt) (o + 2)) (.ref o 1)).map (AV.any, ·) = _ by
    rw [sto55]
    simp only [aStoreN, hob]
    rw [← hfin]
    rfl) ?_
  refine AOps.nil ?_
  dsimp only
  refine AW.regl false [4, 5] (by rfl) fun K4 hK4 => ?_ -- region 3
  simp only [go_sem, Nat.reduceAdd, Nat.reduceEqDiff, Nat.reduceLeDiff, true_and, bs_size]
  refine hK4 _ _ ?_; try clear hK4 K4
  conv => enter [5]; simp only [setL_cons, setL_nil, List.set_cons_zero, List.set_cons_succ]
  exact AW.ret ⟨.inr rfl, _, rfl, pb σ o true (t ++ s), [], (List.append_nil _).symm, by simp only [pb_len], fun j a h => pb_keep2 ho j a h, rfl, ⟨rfl, rfl⟩⟩
end Pr
end Go.Proofs.Tryd
/-! Printing: put. -/
namespace Go.Proofs.Tryd
set_option linter.unusedSimpArgs false
set_option linter.unusedVariables false
open Go Go.Proofs.Ev
namespace Pr
variable {Γ : List (Nat × List AV)}
theorem flat_succ {α : Type} {ls : List (List α)} {i : Nat} (h : i < ls.length) : (ls.take (i + 1)).flatten = (ls.take i).flatten ++ ls[i] := by
  rw [List.take_add_one, List.getElem?_eq_getElem h, List.flatten_append]
  simp
theorem flat_le {α : Type} (ls : List (List α)) (i : Nat) : (ls.take i).flatten.length ≤ ls.flatten.length := by
  conv => rhs; rw [← List.take_append_drop i ls, List.flatten_append, List.length_append]
  omega
set_option maxRecDepth 100000 in
theorem put_calls {σ : Sto} {o : Nat} (ho : o + 3 < σ.length) (u : Bool) (t : List UInt8) (ls : List (List UInt8)) (hne : ls ≠ []) (hl : ls.length ≤ 1000) (hf : t.length + ls.flatten.length ≤ 140737488355328) : ACalls prog Γ 34 [.ref o 0, .sl 1 (ls.map fun x => str (bs x))] (pb σ o u t) (fun v σ' => v = .tup [] ∧ σ' = pb σ o true (t ++ ls.flatten)) := by
  refine ACalls.ofT func34 rfl ?_
  simp only [ntmps34, List.length_cons, List.length_nil, Nat.reduceAdd, Nat.reduceSub, List.replicate_succ, List.replicate_zero, List.cons_append, List.nil_append]
  rw [← row_false]
  have hl : ls.length ≤ maxLen := by rw [maxLen_eq]; omega
  refine AW.regl false [6, 7, 8] (by rfl) fun K1 hK1 => ?_ -- region 0
  simp only [go_sem, Nat.reduceAdd, Nat.reduceEqDiff, Nat.reduceLeDiff, true_and, bs_size, List.length_map]
  refine hK1 _ _ ?_; try clear hK1 K1
  conv => enter [5]; simp only [setL_cons, setL_nil, List.set_cons_zero, List.set_cons_succ]
  refine AW.block ?_
  refine AW.loop_wk (α := Nat) (fun i => [(.ref o 0), .any, .any, .any, .any, .any, (rowAV 1 false (ls.map (fun x => str (bs x)))), (.val (.int .i64 ((ls.length : Nat) : Int))), (.val (.int .i64 ((i : Nat) : Int))), .any, .any, .any, .any, .any, .any, .any, .any, .any]) (fun i => pb σ o (decide (0 < i) || u) (t ++ (ls.take i).flatten)) (fun i => ls.length - i) (fun i => i ≤ ls.length) 0 ?_ ?_
  · exact ⟨Nat.zero_le _, by simp [Wk], by simp⟩
  · intro i hi
    refine AW.regl false [9] (by rfl) fun K2 hK2 => ?_ -- region 1
    simp only [go_sem, Nat.reduceAdd, Nat.reduceEqDiff, Nat.reduceLeDiff, true_and, bs_size, List.length_map]
    refine hK2 _ _ ?_; try clear hK2 K2
    conv => enter [5]; simp only [setL_cons, setL_nil, List.set_cons_zero, List.set_cons_succ]
    refine AW.seq_k fun K3 hK3 => ?_
    refine AW.cond rfl (fun hc9 => ?_) (fun hc9 => ?_)
    · skip
      have hi1 : i < ls.length := by simpa using hc9
      have hx : (ls.map (fun x => str (bs x)))[i]? = some (.val (.string (bs ls[i]))) := by rw [List.getElem?_map, List.getElem?_eq_getElem hi1]; rfl
      have hfl := flat_succ hi1
      have hfi := flat_le ls (i + 1)
      rw [hfl, List.length_append] at hfi
      refine AW.skip ?_
      refine hK3 _ _ ?_; try clear hK3 K3
      refine AW.seq_k fun K4 hK4 => ?_
      refine AW.block ?_
      refine AW.regl false [5] (by rfl) fun K5 hK5 => ?_ -- region 2
      simp only [go_sem, Nat.reduceAdd, Nat.reduceEqDiff, Nat.reduceLeDiff, true_and, bs_size, List.length_map, at_row hx]
      refine hK5 _ _ ?_; try clear hK5 K5
      conv => enter [5]; simp only [setL_cons, setL_nil, List.set_cons_zero, List.set_cons_succ]
      refine AW.lastl false [] (by rfl) fun K hK => ?_ -- region 3
      simp only [go_sem, Nat.reduceAdd, Nat.reduceEqDiff, Nat.reduceLeDiff, true_and, bs_size, List.length_map]
      refine sC.ofR en53 (write_calls ho (decide (0 < i) || u) (t ++ (ls.take i).flatten) ls[i] (by rw [List.length_append]; omega)) (fun v' σ' hR => ?_)
      obtain ⟨rfl, rfl⟩ := hR
      simp only [go_sem, Nat.reduceAdd, Nat.reduceEqDiff, Nat.reduceLeDiff, true_and, bs_size, List.length_map]
      refine hK _ _ fun env' hw => ?_
      simp only [setL_cons, setL_nil, List.set_cons_zero, List.set_cons_succ] at hw
      refine hK4 _ _ (AW.weaken hw ?_); clear hw; try clear hK4 K4
      refine AW.lastl false [8] (by rfl) fun K hK => ?_ -- region 4
      simp only [go_sem, Nat.reduceAdd, Nat.reduceEqDiff, Nat.reduceLeDiff, true_and, bs_size, List.length_map]
      refine hK _ _ fun env' hw => ?_
      simp only [setL_cons, setL_nil, List.set_cons_zero, List.set_cons_succ] at hw
      refine ⟨i + 1, by omega, by omega, ?_, ?_⟩
      · refine hw.trans ?_
        simp [Wk, wrap_succ hi1 hl]
        try omega
      · rw [hfl]
        simp
    · skip
      have hi1 : i = ls.length := by
        have : ¬ i < ls.length := by simpa using hc9
        omega
      rw [hi1, List.take_length]
      have hp : 0 < ls.length := List.length_pos_iff.2 hne
      refine AW.exit ?_
      have hu : (decide (0 < ls.length) || u) = true := by simp [hp]
      rw [hu]
      exact ⟨.inl rfl, _, rfl, pb σ o true (t ++ ls.flatten), [], (List.append_nil _).symm, by simp only [pb_len], fun j a h => pb_keep2 ho j a h, rfl, ⟨rfl, rfl⟩⟩
end Pr
end Go.Proofs.Tryd
