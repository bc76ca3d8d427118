import Derived.Test.YtnjehllmlheagaaDoorPkRgA
/-! Flow: function 80. -/
namespace Go.Proofs.Tryd
set_option linter.unusedSimpArgs false
set_option linter.unusedVariables false
open Go Go.Proofs.Ev
namespace Fl
variable {Γ : List (Nat × List AV)} {w : AV} {G : List (Nat × List AV)}
set_option maxRecDepth 100000 in
theorem result_calls (b : Blk) (T : List Int) (h2 : b.kind = 2 → 0 < T.length) (h3 : b.kind = 3 → 1 < T.length ∧ 1 ≤ b.op ∧ b.op ≤ 15) (h5 : b.kind = 5 → 1 < T.length) (h6 : b.kind = 6 → 2 < T.length) : APure prog (GK w G) 80 [b.enc, rowAV 1 true (T.map intA)] (.tup [i64 (resM b T).1, .val (.bool (resM b T).2)]) := by
  refine APure.of func80 rfl fun σ => ?_
  simp only [ntmps80, List.length_cons, List.length_nil, Nat.reduceAdd, Nat.reduceSub, List.replicate_succ, List.replicate_zero, List.cons_append, List.nil_append]
  refine AW.regl false [2, 4, 5] (by rfl) fun K1 hK1 => ?_ -- region 0
  simp only [go_sem, Nat.reduceAdd, Nat.reduceEqDiff, Nat.reduceLeDiff, true_and, List.length_map, len_row, one_row, List.drop_zero, blk_len, dgm_len, port_len, out_len, src_len, file_len, src_get, port_get, out_get, blk_get, dgm_get, file_get, dgm_all, blk_all, src_all, port_all, out_all, file_all, encR_get, encR_all, encR_len, opnd_k2]
  refine hK1 _ _ ?_; try clear hK1 K1
  conv => enter [5]; simp only [setL_cons, setL_nil, List.set_cons_zero, List.set_cons_succ]
  refine AW.seq_k fun K2 hK2 => ?_
  refine AW.regl false [8] (by rfl) fun K3 hK3 => ?_ -- region 1
  simp only [go_sem, Nat.reduceAdd, Nat.reduceEqDiff, Nat.reduceLeDiff, true_and, List.length_map, len_row, one_row, List.drop_zero, blk_len, dgm_len, port_len, out_len, src_len, file_len, src_get, port_get, out_get, blk_get, dgm_get, file_get, dgm_all, blk_all, src_all, port_all, out_all, file_all, encR_get, encR_all, encR_len, opnd_k2, Blk.enc]
  refine hK3 _ _ ?_; try clear hK3 K3
  conv => enter [5]; simp only [setL_cons, setL_nil, List.set_cons_zero, List.set_cons_succ]
  refine AW.block ?_
  refine AW.regl false [9] (by rfl) fun K4 hK4 => ?_ -- region 2
  simp only [go_sem, Nat.reduceAdd, Nat.reduceEqDiff, Nat.reduceLeDiff, true_and, List.length_map, len_row, one_row, List.drop_zero, blk_len, dgm_len, port_len, out_len, src_len, file_len, src_get, port_get, out_get, blk_get, dgm_get, file_get, dgm_all, blk_all, src_all, port_all, out_all, file_all, encR_get, encR_all, encR_len, opnd_k2]
  refine hK4 _ _ ?_; try clear hK4 K4
  conv => enter [5]; simp only [setL_cons, setL_nil, List.set_cons_zero, List.set_cons_succ]
  refine AW.cond rfl (fun hc9 => ?_) (fun hc9 => ?_)
  · skip
    refine AW.regl false [4, 5] (by rfl) fun K5 hK5 => ?_ -- region 3
    simp only [go_sem, Nat.reduceAdd, Nat.reduceEqDiff, Nat.reduceLeDiff, true_and, List.length_map, len_row, one_row, List.drop_zero, blk_len, dgm_len, port_len, out_len, src_len, file_len, src_get, port_get, out_get, blk_get, dgm_get, file_get, dgm_all, blk_all, src_all, port_all, out_all, file_all, encR_get, encR_all, encR_len, opnd_k2]
    refine hK5 _ _ ?_; try clear hK5 K5
    conv => enter [5]; simp only [setL_cons, setL_nil, List.set_cons_zero, List.set_cons_succ]
    refine AW.ret ⟨.inr rfl, _, rfl, by simp, ?_⟩ -- return 1
    unfold resM
    rw [if_pos hc9]
    exact .keep rfl
  · skip
    refine AW.regl false [11] (by rfl) fun K6 hK6 => ?_ -- region 4
    simp only [go_sem, Nat.reduceAdd, Nat.reduceEqDiff, Nat.reduceLeDiff, true_and, List.length_map, len_row, one_row, List.drop_zero, blk_len, dgm_len, port_len, out_len, src_len, file_len, src_get, port_get, out_get, blk_get, dgm_get, file_get, dgm_all, blk_all, src_all, port_all, out_all, file_all, encR_get, encR_all, encR_len, opnd_k2]
    refine hK6 _ _ ?_; try clear hK6 K6
    conv => enter [5]; simp only [setL_cons, setL_nil, List.set_cons_zero, List.set_cons_succ]
    refine AW.cond rfl (fun hc11 => ?_) (fun hc11 => ?_)
    · skip
      have hl := h2 (by simpa using hc11)
      refine AW.regdl mixed false [4, 5] (by kernel_rfl) (by rfl) fun K7 hK7 => ?_ -- region 5
      simp only [go_sem, Nat.reduceAdd, Nat.reduceEqDiff, Nat.reduceLeDiff, true_and, List.length_map, len_row, one_row, List.drop_zero, blk_len, dgm_len, port_len, out_len, src_len, file_len, src_get, port_get, out_get, blk_get, dgm_get, file_get, dgm_all, blk_all, src_all, port_all, out_all, file_all, encR_get, encR_all, encR_len, opnd_k2, Blk.enc, rowT0 (show 0 < T.length by omega)]
      refine hK7 _ ?_; try clear hK7 K7
      conv => enter [5]; simp only [setL_cons, setL_nil, List.set_cons_zero, List.set_cons_succ]
      refine AW.ret ⟨.inr rfl, _, rfl, by simp, ?_⟩ -- return 2
      unfold resM
      rw [if_neg (ne_true_of_eq_false hc9), if_pos hc11]
      exact .keep rfl
    · skip
      refine AW.regl false [21] (by rfl) fun K8 hK8 => ?_ -- region 6
      simp only [go_sem, Nat.reduceAdd, Nat.reduceEqDiff, Nat.reduceLeDiff, true_and, List.length_map, len_row, one_row, List.drop_zero, blk_len, dgm_len, port_len, out_len, src_len, file_len, src_get, port_get, out_get, blk_get, dgm_get, file_get, dgm_all, blk_all, src_all, port_all, out_all, file_all, encR_get, encR_all, encR_len, opnd_k2]
      refine hK8 _ _ ?_; try clear hK8 K8
      conv => enter [5]; simp only [setL_cons, setL_nil, List.set_cons_zero, List.set_cons_succ]
      refine AW.cond rfl (fun hc21 => ?_) (fun hc21 => ?_)
      · skip
        refine AW.regl false [4, 5] (by rfl) fun K9 hK9 => ?_ -- region 7
        simp only [go_sem, Nat.reduceAdd, Nat.reduceEqDiff, Nat.reduceLeDiff, true_and, List.length_map, len_row, one_row, List.drop_zero, blk_len, dgm_len, port_len, out_len, src_len, file_len, src_get, port_get, out_get, blk_get, dgm_get, file_get, dgm_all, blk_all, src_all, port_all, out_all, file_all, encR_get, encR_all, encR_len, opnd_k2, Blk.enc]
        refine hK9 _ _ ?_; try clear hK9 K9
        conv => enter [5]; simp only [setL_cons, setL_nil, List.set_cons_zero, List.set_cons_succ]
        refine AW.ret ⟨.inr rfl, _, rfl, by simp, ?_⟩ -- return 3
        unfold resM
        rw [if_neg (ne_true_of_eq_false hc9), if_neg (ne_true_of_eq_false hc11), if_pos hc21]
        exact .keep rfl
      · skip
        refine AW.regl false [25] (by rfl) fun K10 hK10 => ?_ -- region 8
        simp only [go_sem, Nat.reduceAdd, Nat.reduceEqDiff, Nat.reduceLeDiff, true_and, List.length_map, len_row, one_row, List.drop_zero, blk_len, dgm_len, port_len, out_len, src_len, file_len, src_get, port_get, out_get, blk_get, dgm_get, file_get, dgm_all, blk_all, src_all, port_all, out_all, file_all, encR_get, encR_all, encR_len, opnd_k2]
        refine hK10 _ _ ?_; try clear hK10 K10
        conv => enter [5]; simp only [setL_cons, setL_nil, List.set_cons_zero, List.set_cons_succ]
        refine AW.cond rfl (fun hc25 => ?_) (fun hc25 => ?_)
        · skip
          obtain ⟨hl, ho1, ho2⟩ := h3 (by simpa using hc25)
          obtain ⟨q, hq, hr⟩ := rul_at ho1 ho2
          have hwr : IntKind.wrap .i64 (b.op - 1) = (q : Int) := by rw [← hq]; exact wrapI (by omega) (by omega)
          refine AW.regl false [6] (by rfl) fun K11 hK11 => ?_ -- region 9
          simp only [go_sem, Nat.reduceAdd, Nat.reduceEqDiff, Nat.reduceLeDiff, true_and, List.length_map, len_row, one_row, List.drop_zero, blk_len, dgm_len, port_len, out_len, src_len, file_len, src_get, port_get, out_get, blk_get, dgm_get, file_get, dgm_all, blk_all, src_all, port_all, out_all, file_all, encR_get, encR_all, encR_len, opnd_k2, Blk.enc, hwr, at_sl hr]
          refine hK11 _ _ ?_; try clear hK11 K11
          conv => enter [5]; simp only [setL_cons, setL_nil, List.set_cons_zero, List.set_cons_succ, upd_none, upd_at]
          refine AW.regtdf2 mixed false 4 (.val (.int .i64 ((rul b).2))) 5 (.val (.bool (((T.getD 0 0) == (T.getD 1 0)) && ((((rul b).1) == 2) || (((rul b).1) == (T.getD 0 0)))))) (by kernel_rfl) (by rfl) ?_ ?_ -- region 10
          · skip
            cases h41 : (((T.getD 0 0) == (T.getD 1 0)))
            · skip
              simp only [go_sem, Nat.reduceAdd, Nat.reduceEqDiff, Nat.reduceLeDiff, true_and, List.length_map, len_row, one_row, List.drop_zero, blk_len, dgm_len, port_len, out_len, src_len, file_len, src_get, port_get, out_get, blk_get, dgm_get, file_get, dgm_all, blk_all, src_all, port_all, out_all, file_all, encR_get, encR_all, encR_len, opnd_k2, encR, rowT0 (show 0 < T.length by omega), rowT1 (show 1 < T.length by omega), h41]
              try simp [upd_at, h41, List.length_map, len_row, one_row, List.drop_zero, blk_len, dgm_len, port_len, out_len, src_len, file_len, src_get, port_get, out_get, blk_get, dgm_get, file_get, dgm_all, blk_all, src_all, port_all, out_all, file_all, encR_get, encR_all, encR_len, opnd_k2, encR, rowT0 (show 0 < T.length by omega), rowT1 (show 1 < T.length by omega)]
            · skip
              cases h45 : ((((rul b).1) == 2))
              · skip
                simp only [go_sem, Nat.reduceAdd, Nat.reduceEqDiff, Nat.reduceLeDiff, true_and, List.length_map, len_row, one_row, List.drop_zero, blk_len, dgm_len, port_len, out_len, src_len, file_len, src_get, port_get, out_get, blk_get, dgm_get, file_get, dgm_all, blk_all, src_all, port_all, out_all, file_all, encR_get, encR_all, encR_len, opnd_k2, encR, rowT0 (show 0 < T.length by omega), rowT1 (show 1 < T.length by omega), h41, h45]
                try simp [upd_at, h41, h45, List.length_map, len_row, one_row, List.drop_zero, blk_len, dgm_len, port_len, out_len, src_len, file_len, src_get, port_get, out_get, blk_get, dgm_get, file_get, dgm_all, blk_all, src_all, port_all, out_all, file_all, encR_get, encR_all, encR_len, opnd_k2, encR, rowT0 (show 0 < T.length by omega), rowT1 (show 1 < T.length by omega)]
              · skip
                simp only [go_sem, Nat.reduceAdd, Nat.reduceEqDiff, Nat.reduceLeDiff, true_and, List.length_map, len_row, one_row, List.drop_zero, blk_len, dgm_len, port_len, out_len, src_len, file_len, src_get, port_get, out_get, blk_get, dgm_get, file_get, dgm_all, blk_all, src_all, port_all, out_all, file_all, encR_get, encR_all, encR_len, opnd_k2, encR, rowT0 (show 0 < T.length by omega), rowT1 (show 1 < T.length by omega), h41, h45]
                try simp [upd_at, h41, h45, List.length_map, len_row, one_row, List.drop_zero, blk_len, dgm_len, port_len, out_len, src_len, file_len, src_get, port_get, out_get, blk_get, dgm_get, file_get, dgm_all, blk_all, src_all, port_all, out_all, file_all, encR_get, encR_all, encR_len, opnd_k2, encR, rowT0 (show 0 < T.length by omega), rowT1 (show 1 < T.length by omega)]
          conv => enter [5]; simp only [List.set_cons_zero, List.set_cons_succ]
          refine AW.ret ⟨.inr rfl, _, rfl, by simp, ?_⟩ -- return 4
          unfold resM
          rw [if_neg (ne_true_of_eq_false hc9), if_neg (ne_true_of_eq_false hc11), if_neg (ne_true_of_eq_false hc21), if_pos hc25]
          exact .keep rfl
        · skip
          refine AW.regl false [55] (by rfl) fun K13 hK13 => ?_ -- region 11
          simp only [go_sem, Nat.reduceAdd, Nat.reduceEqDiff, Nat.reduceLeDiff, true_and, List.length_map, len_row, one_row, List.drop_zero, blk_len, dgm_len, port_len, out_len, src_len, file_len, src_get, port_get, out_get, blk_get, dgm_get, file_get, dgm_all, blk_all, src_all, port_all, out_all, file_all, encR_get, encR_all, encR_len, opnd_k2]
          refine hK13 _ _ ?_; try clear hK13 K13
          conv => enter [5]; simp only [setL_cons, setL_nil, List.set_cons_zero, List.set_cons_succ]
          refine AW.cond rfl (fun hc55 => ?_) (fun hc55 => ?_)
          · skip
            have hl := h5 (by simpa using hc55)
            refine AW.regdl mixed false [4, 5] (by kernel_rfl) (by rfl) fun K14 hK14 => ?_ -- region 12
            simp only [go_sem, Nat.reduceAdd, Nat.reduceEqDiff, Nat.reduceLeDiff, true_and, List.length_map, len_row, one_row, List.drop_zero, blk_len, dgm_len, port_len, out_len, src_len, file_len, src_get, port_get, out_get, blk_get, dgm_get, file_get, dgm_all, blk_all, src_all, port_all, out_all, file_all, encR_get, encR_all, encR_len, opnd_k2, rowT0 (show 0 < T.length by omega), rowT1 (show 1 < T.length by omega)]
            refine hK14 _ ?_; try clear hK14 K14
            conv => enter [5]; simp only [setL_cons, setL_nil, List.set_cons_zero, List.set_cons_succ]
            refine AW.ret ⟨.inr rfl, _, rfl, by simp, ?_⟩ -- return 5
            unfold resM
            rw [if_neg (ne_true_of_eq_false hc9), if_neg (ne_true_of_eq_false hc11), if_neg (ne_true_of_eq_false hc21), if_neg (ne_true_of_eq_false hc25), if_pos hc55]
            exact .keep rfl
          · skip
            refine AW.regl false [67] (by rfl) fun K15 hK15 => ?_ -- region 13
            simp only [go_sem, Nat.reduceAdd, Nat.reduceEqDiff, Nat.reduceLeDiff, true_and, List.length_map, len_row, one_row, List.drop_zero, blk_len, dgm_len, port_len, out_len, src_len, file_len, src_get, port_get, out_get, blk_get, dgm_get, file_get, dgm_all, blk_all, src_all, port_all, out_all, file_all, encR_get, encR_all, encR_len, opnd_k2]
            refine hK15 _ _ ?_; try clear hK15 K15
            conv => enter [5]; simp only [setL_cons, setL_nil, List.set_cons_zero, List.set_cons_succ]
            refine AW.cond rfl (fun hc67 => ?_) (fun hc67 => ?_)
            · skip
              have hl := h6 (by simpa using hc67)
              refine AW.regtdf2 mixed false 4 (.val (.int .i64 (T.getD 1 0))) 5 (.val (.bool (((T.getD 0 0) == 1) && ((T.getD 1 0) == (T.getD 2 0))))) (by kernel_rfl) (by rfl) ?_ ?_ -- region 14
              · skip
                cases h75 : (((T.getD 0 0) == 1))
                · skip
                  simp only [go_sem, Nat.reduceAdd, Nat.reduceEqDiff, Nat.reduceLeDiff, true_and, List.length_map, len_row, one_row, List.drop_zero, blk_len, dgm_len, port_len, out_len, src_len, file_len, src_get, port_get, out_get, blk_get, dgm_get, file_get, dgm_all, blk_all, src_all, port_all, out_all, file_all, encR_get, encR_all, encR_len, opnd_k2, rowT0 (show 0 < T.length by omega), rowT1 (show 1 < T.length by omega), rowT2 (show 2 < T.length by omega), h75]
                  try simp [upd_at, h75, List.length_map, len_row, one_row, List.drop_zero, blk_len, dgm_len, port_len, out_len, src_len, file_len, src_get, port_get, out_get, blk_get, dgm_get, file_get, dgm_all, blk_all, src_all, port_all, out_all, file_all, encR_get, encR_all, encR_len, opnd_k2, rowT0 (show 0 < T.length by omega), rowT1 (show 1 < T.length by omega), rowT2 (show 2 < T.length by omega)]
                · skip
                  simp only [go_sem, Nat.reduceAdd, Nat.reduceEqDiff, Nat.reduceLeDiff, true_and, List.length_map, len_row, one_row, List.drop_zero, blk_len, dgm_len, port_len, out_len, src_len, file_len, src_get, port_get, out_get, blk_get, dgm_get, file_get, dgm_all, blk_all, src_all, port_all, out_all, file_all, encR_get, encR_all, encR_len, opnd_k2, rowT0 (show 0 < T.length by omega), rowT1 (show 1 < T.length by omega), rowT2 (show 2 < T.length by omega), h75]
                  try simp [upd_at, h75, List.length_map, len_row, one_row, List.drop_zero, blk_len, dgm_len, port_len, out_len, src_len, file_len, src_get, port_get, out_get, blk_get, dgm_get, file_get, dgm_all, blk_all, src_all, port_all, out_all, file_all, encR_get, encR_all, encR_len, opnd_k2, rowT0 (show 0 < T.length by omega), rowT1 (show 1 < T.length by omega), rowT2 (show 2 < T.length by omega)]
              conv => enter [5]; simp only [List.set_cons_zero, List.set_cons_succ]
              refine AW.ret ⟨.inr rfl, _, rfl, by simp, ?_⟩ -- return 6
              unfold resM
              rw [if_neg (ne_true_of_eq_false hc9), if_neg (ne_true_of_eq_false hc11), if_neg (ne_true_of_eq_false hc21), if_neg (ne_true_of_eq_false hc25), if_neg (ne_true_of_eq_false hc55), if_pos hc67]
              exact .keep rfl
            · skip
              refine AW.skip ?_
              refine hK2 _ _ ?_; try clear hK2 K2
              refine AW.regl false [4, 5] (by rfl) fun K17 hK17 => ?_ -- region 15
              simp only [go_sem, Nat.reduceAdd, Nat.reduceEqDiff, Nat.reduceLeDiff, true_and, List.length_map, len_row, one_row, List.drop_zero, blk_len, dgm_len, port_len, out_len, src_len, file_len, src_get, port_get, out_get, blk_get, dgm_get, file_get, dgm_all, blk_all, src_all, port_all, out_all, file_all, encR_get, encR_all, encR_len, opnd_k2]
              refine hK17 _ _ ?_; try clear hK17 K17
              conv => enter [5]; simp only [setL_cons, setL_nil, List.set_cons_zero, List.set_cons_succ]
              refine AW.ret ⟨.inr rfl, _, rfl, by simp, ?_⟩ -- return 7
              unfold resM
              rw [if_neg (ne_true_of_eq_false hc9), if_neg (ne_true_of_eq_false hc11), if_neg (ne_true_of_eq_false hc21), if_neg (ne_true_of_eq_false hc25), if_neg (ne_true_of_eq_false hc55), if_neg (ne_true_of_eq_false hc67)]
              exact .keep rfl
end Fl
end Go.Proofs.Tryd
/-! Flow: live rows of rows. -/
namespace Go.Proofs.Tryd
set_option linter.unusedSimpArgs false
set_option linter.unusedVariables false
open Go Go.Proofs.Ev
namespace Fl
theorem belL_set {n : Nat} {v : AV} (hv : v.bel n = true) : ∀ {l : List AV} {i : Nat}, belL n l = true → belL n (l.set i v) = true
  | [], _, _ => rfl
  | c :: l, 0, h => by
    simp only [belL, Bool.and_eq_true] at h
    simp [belL, hv, h.2]
  | c :: l, i + 1, h => by
    simp only [belL, Bool.and_eq_true] at h
    simp [belL, h.1, belL_set hv h.2]
theorem dr_set {l : List AV} {i : Nat} (h : i < l.length) (v : AV) : (l.set i v).drop i = v :: l.drop (i + 1) := by
  rw [List.drop_eq_getElem_cons (by simpa using h), List.drop_set_of_lt (Nat.lt_succ_self _)]
  simp
theorem spl_set {l : List AV} {i : Nat} (h : i < l.length) (u v : AV) : (l.set i u).take i ++ v :: (l.set i u).drop (i + 1) = l.set i v := by
  rw [List.set_eq_take_append_cons_drop (l := l) (a := v), if_pos h]
  congr 1
  · rw [List.take_set_of_le (Nat.le_refl _)]
  · rw [List.drop_set_of_lt (Nat.lt_succ_self _)]
/-- Rows of which so many are done. -/
def gx (L : List (List Nat)) (i : Nat) : List AV := (L.take i ++ List.replicate (L.length - i) []).map rowN
theorem gx_len {L : List (List Nat)} {i : Nat} (h : i ≤ L.length) : (gx L i).length = L.length := by simp [gx]; omega
theorem gx_at {L : List (List Nat)} {i : Nat} (h : i < L.length) : (gx L i)[i]? = some .nilsl := by
  rw [gx, List.getElem?_map, List.getElem?_append_right (by simp; omega)]
  have e1 : (L.take i).length = i := by simp; omega
  rw [e1, Nat.sub_self, List.getElem?_replicate, if_pos (by omega)]
  rfl
theorem gx_zero (L : List (List Nat)) : gx L 0 = List.replicate L.length .nilsl := by
  simp only [gx, List.take_zero, List.nil_append, Nat.sub_zero, List.map_replicate]
  rfl
theorem gx_end (L : List (List Nat)) : gx L L.length = L.map rowN := by simp [gx]
theorem gx_bel (L : List (List Nat)) (i n : Nat) : belL n (gx L i) = true := belL_map _ _ fun _ _ => rowN_bel _ _
theorem gx_still {L : List (List Nat)} {i : Nat} (h : i < L.length) (k : Nat) : ((gx L i).set i (.slo true 1 ((L[i]).map natA) k)).map AV.still = gx L (i + 1) := by
  have hm : (gx L i).map AV.still = gx L i := by
    simp only [gx, List.map_map]
    exact List.map_congr_left fun x _ => rowN_still x
  rw [List.map_set, hm, still_slo]
  show (gx L i).set i (rowN L[i]) = _
  have e1 : (L.take i).length = i := by simp; omega
  have e2 : L.length - i = (L.length - (i + 1)) + 1 := by omega
  rw [gx, gx, ← List.map_set, List.set_append_right _ _ (by omega), e1, Nat.sub_self, e2, List.replicate_succ, List.set_cons_zero, List.take_succ_eq_append_getElem h, List.append_assoc]
  rfl
theorem hangL_len (d : Dgm) : (hangL d).length = d.blocks.length := by simp [hangL]
theorem frz_gx {n o : Nat} {σ : Sto} {L : List (List Nat)} {l : Nat} (ho : n ≤ o) (h : σ[o]? = some (.cells (L.map rowN))) (hl : l = L.length) : Frz n σ (.osl o 0 l 1) (.sl 1 (L.map rowN)) :=
  frz_live rowN rowN_cells rowN_bel ho h hl
end Fl
end Go.Proofs.Tryd
/-! Flow: what the maps of types come to. -/
namespace Go.Proofs.Tryd
set_option linter.unusedSimpArgs false
set_option linter.unusedVariables false
open Go Go.Proofs.Ev
namespace Fl
def lkM (M : MapM) (s : Src) : Int := (look M (s.block, s.port)).getD 0
theorem dr_at {l : List AV} {i : Nat} {v : AV} (h : l[i]? = some v) : l.drop i = v :: l.drop (i + 1) := by
  obtain ⟨hi, rfl⟩ := List.getElem?_eq_some_iff.1 h
  exact List.drop_eq_getElem_cons hi
/-- Values put under keys that are told by their places. -/
def putU (key : Nat → Int × Int) : MapM → List Int → Nat → MapM
  | M, [], _ => M
  | M, v :: l, j => putU key (upd M (key j) v) l (j + 1)
theorem putU_snoc (key : Nat → Int × Int) : ∀ (l : List Int) (M : MapM) (v : Int) (j : Nat), putU key M (l ++ [v]) j = upd (putU key M l j) (key (j + l.length)) v
  | [], _, _, _ => rfl
  | x :: l, M, v, j => by
    show putU key (upd M (key j) x) (l ++ [v]) (j + 1) = _
    rw [putU_snoc key l, List.length_cons, show j + 1 + l.length = j + (l.length + 1) by omega]
    rfl
theorem putU_take {key : Nat → Int × Int} {l : List Int} {M : MapM} {j : Nat} (hj : j < l.length) : putU key M (l.take (j + 1)) 0 = upd (putU key M (l.take j) 0) (key j) l[j] := by
  rw [List.take_succ_eq_append_getElem hj, putU_snoc]
  congr 2
  simp
  omega
def outT (f : FileM) (b : Blk) : List Int := match f.ds[b.sub.toNat]? with
  | some e => e.outs.map (·.port.type)
  | none => []
def subR (f : FileM) (M : MapM) (k : Nat) (b : Blk) : Bool × MapM :=
  if b.src.map (lkM M) = insT f b then (true, putU (fun j => ((k : Int), (j : Int))) M (outT f b) 0) else (false, M)
/-- Delays' types. -/
def delU : MapM → List Blk → Nat → MapM
  | M, [], _ => M
  | M, b :: l, j => delU (if (b.kind == 4) = true then upd M ((j : Int), 0) b.op else M) l (j + 1)
theorem delU_snoc : ∀ (l : List Blk) (M : MapM) (b : Blk) (j : Nat), delU M (l ++ [b]) j = if (b.kind == 4) = true then upd (delU M l j) (((j + l.length : Nat) : Int), 0) b.op else delU M l j
  | [], M, b, j => rfl
  | x :: l, M, b, j => by
    show delU _ (l ++ [b]) (j + 1) = _
    rw [delU_snoc l, List.length_cons, show j + 1 + l.length = j + (l.length + 1) by omega]
    rfl
theorem delU_take {l : List Blk} {M : MapM} {j : Nat} (hj : j < l.length) : delU M (l.take (j + 1)) 0 = if ((l[j]).kind == 4) = true then upd (delU M (l.take j) 0) ((j : Int), 0) (l[j]).op else delU M (l.take j) 0 := by
  rw [List.take_succ_eq_append_getElem hj, delU_snoc, show 0 + (l.take j).length = j by simp; omega]
def fromT (M : MapM) (b : Blk) : List Int := if (b.kind == 4) = true then [] else b.src.map (lkM M)
def stepM (f : FileM) (M : MapM) (k : Nat) (b : Blk) : Option MapM :=
  if (b.kind == 7) = true then (if (subR f M k b).1 = true then some (subR f M k b).2 else none)
  else if (resM b (fromT M b)).2 = true then some (upd M ((k : Int), 0) (resM b (fromT M b)).1) else none
def walkM (f : FileM) (d : Dgm) : MapM → List Nat → Option MapM
  | M, [] => some M
  | M, k :: l => match d.blocks[k]? with
    | some b => (stepM f M k b).bind fun M' => walkM f d M' l
    | none => none
theorem walkM_snoc (f : FileM) (d : Dgm) : ∀ (l : List Nat) (M : MapM) (k : Nat), walkM f d M (l ++ [k]) = (walkM f d M l).bind fun M' => match d.blocks[k]? with | some b => stepM f M' k b | none => none
  | [], M, k => by
    simp only [List.nil_append, walkM, Option.bind_some]
    cases d.blocks[k]? with
    | none => rfl
    | some b => simp only [Option.bind_some]; cases stepM f M k b <;> rfl
  | x :: l, M, k => by
    simp only [List.cons_append, walkM]
    cases d.blocks[x]? with
    | none => rfl
    | some b =>
      simp only
      cases stepM f M x b with
      | none => rfl
      | some M' => exact walkM_snoc f d l M' k
def startM (d : Dgm) (M : MapM) : MapM := delU (putU (fun j => (-1, (j : Int))) M (d.ins.map (·.type)) 0) d.blocks 0
def endB (d : Dgm) (M : MapM) : Bool := d.blocks.all (fun b => !((b.kind == 4) && ((b.src[0]?.map (lkM M)).getD 0 != b.op))) && !(d.outs.any fun o => lkM M o.src != o.port.type)
def typedB (f : FileM) (d : Dgm) (o : List Nat) : Bool := match walkM f d (startM d []) o with
  | some M => endB d M
  | none => false
/-- Where the types lie. -/
structure TyAt (σ : Sto) (ot oty om i n : Nat) (fc nm : AV) (rest tys : List AV) : Prop where
  t : σ[ot]? = some (.cells (fc :: nm :: .osl oty 0 n 1 :: rest))
  ty : σ[oty]? = some (.cells tys)
  at_ : tys[i]? = some (.mapo om)
  len : tys.length = n
  lt : i < n
  m : om < σ.length
  n1 : om ≠ ot
  n2 : om ≠ oty
variable {σ : Sto} {ot oty om i n : Nat} {fc nm : AV} {rest tys : List AV}
theorem TyAt.app (h : TyAt σ ot oty om i n fc nm rest tys) (τ : Sto) : TyAt (σ ++ τ) ot oty om i n fc nm rest tys :=
  ⟨getL h.t τ, getL h.ty τ, h.at_, h.len, h.lt, by have := h.m; simp; omega, h.n1, h.n2⟩
theorem TyAt.ot_lt (h : TyAt σ ot oty om i n fc nm rest tys) : ot < σ.length := (List.getElem?_eq_some_iff.1 h.t).1
theorem sm_loop {M M' : MapM} {m : Nat} (l : Sto) (j : Nat) (a : AO) (h : (sm σ om M' ++ l)[j]? = some a) : (sm σ om M ++ l)[j]? = some a ∨ a.bel m = true := by
  rw [List.getElem?_append] at h ⊢
  rw [sm_len] at h ⊢
  split at h
  · rename_i hj
    rw [if_pos hj]
    rw [sm, List.getElem?_set] at h
    split at h
    · split at h
      · cases h
        exact .inr (belL_map _ _ fun _ _ => rfl)
      · cases h
    · rename_i hne
      rw [sm, List.getElem?_set_ne hne]
      exact .inl h
  · rename_i hj
    rw [if_neg hj]
    exact .inl h
theorem sm_geta (σ : Sto) (om : Nat) (M : MapM) (l : Sto) (k : Nat) : (sm σ om M ++ l)[σ.length + k]? = l[k]? := by
  have := app_get (sm σ om M) l k
  rwa [sm_len] at this
theorem sm_geta0 (σ : Sto) (om : Nat) (M : MapM) (l : Sto) : (sm σ om M ++ l)[σ.length]? = l[0]? := sm_geta σ om M l 0
theorem sm_seta (σ : Sto) (om : Nat) (M : MapM) (l : Sto) (k : Nat) (x : AO) : (sm σ om M ++ l).set (σ.length + k) x = sm σ om M ++ l.set k x := by
  have := app_set (sm σ om M) l k x
  rwa [sm_len] at this
theorem sm_seta0 (σ : Sto) (om : Nat) (M : MapM) (l : Sto) (x : AO) : (sm σ om M ++ l).set σ.length x = sm σ om M ++ l.set 0 x := sm_seta σ om M l 0 x
theorem sm_bela {M M' : MapM} {l l' : Sto} (σ : Sto) (om : Nat) {m : Nat} (h : ∀ a ∈ l', a.bel m = true) (j : Nat) (a : AO) (hj : (sm σ om M' ++ l')[j]? = some a) : (sm σ om M ++ l)[j]? = some a ∨ a.bel m = true := by
  by_cases hl : j < σ.length
  · rw [List.getElem?_append_left (by rw [sm_len]; exact hl)] at hj ⊢
    have := sm_loop (M := M) (M' := M') (m := m) (σ := σ) (om := om) [] j a (by rw [List.append_nil]; exact hj)
    rwa [List.append_nil] at this
  · rw [List.getElem?_append_right (by rw [sm_len]; omega)] at hj
    exact .inr (h a (List.mem_of_getElem? hj))
theorem sm_keep {M M' : MapM} {m : Nat} (j : Nat) (a : AO) (h : (sm σ om M')[j]? = some a) : (sm σ om M)[j]? = some a ∨ a.bel m = true := by
  have := sm_loop (M := M) (M' := M') (m := m) (σ := σ) (om := om) [] j a (by rw [List.append_nil]; exact h)
  rwa [List.append_nil] at this
theorem walkM_app (f : FileM) (d : Dgm) : ∀ (l l' : List Nat) (M : MapM), walkM f d M (l ++ l') = (walkM f d M l).bind fun M' => walkM f d M' l'
  | [], l', M => rfl
  | x :: l, l', M => by
    simp only [List.cons_append, walkM]
    cases d.blocks[x]? with
    | none => rfl
    | some b =>
      simp only
      cases stepM f M x b with
      | none => rfl
      | some M' => exact walkM_app f d l l' M'
theorem walk_next {f : FileM} {d : Dgm} {o : List Nat} {x k : Nat} {M0 M : MapM} {b : Blk} (hx : x < o.length) (hk : o[x] = k) (hb : d.blocks[k]? = some b) (h : walkM f d M0 (o.take x) = some M) : walkM f d M0 (o.take (x + 1)) = stepM f M k b := by
  rw [List.take_succ_eq_append_getElem hx, walkM_snoc, h, hk]
  simp only [Option.bind_some, hb]
theorem walk_none {f : FileM} {d : Dgm} {o : List Nat} {x : Nat} {M0 : MapM} (h : walkM f d M0 (o.take x) = none) : walkM f d M0 o = none := by
  rw [← List.take_append_drop x o, walkM_app, h]
  rfl
theorem len_rowN (l : List Nat) : aLenSl (rowN l) = some (i64 ((l.length : Nat) : Int)) := by
  rw [rowN, len_row, List.length_map]
/-- Names that are taken. -/
def mapP (L : List ByteArray) : AO := .map (L.map Value.string) (List.replicate L.length (bool true))
def insP (L : List ByteArray) (s : ByteArray) : List ByteArray := if (findS L s).isSome = true then L else L ++ [s]
theorem u146 : prog.underlying 146 = some (.map 9 4) := by kernel_rfl
theorem u83 : prog.underlying 83 = some (.map 9 3) := by kernel_rfl
theorem u9 : prog.underlying 9 = some .string := by kernel_rfl
theorem findS_iff : ∀ (l : List ByteArray) (s : ByteArray), (findS l s).isSome = true ↔ s ∈ l
  | [], s => by simp [findS]
  | t :: l, s => by
    simp only [findS, List.mem_cons]
    by_cases h : s = t
    · simp [h]
    · simp only [h, if_false, Option.isSome_map, false_or]
      exact findS_iff l s
set_option maxRecDepth 100000 in
theorem lkP {σ : Sto} {o : Nat} {L : List ByteArray} (h : σ[o]? = some (mapP L)) (s : ByteArray) : aLookup prog σ 146 false (.mapo o) (.val (.string s)) = some (.val (.bool (findS L s).isSome)) := by
  simp only [aLookup, u146, mapParts, h, mapP, u9, plainK, if_true, aFindK_str]
  cases g : findS L s with
  | none => simp only [Option.map_none, zero4]; rfl
  | some i =>
    have hi := (findS_lt g).1
    simp only [Option.map_some, Nat.add_zero, List.getElem?_replicate, hi, if_true]
    rfl
set_option maxRecDepth 100000 in
theorem upP {σ : Sto} {o : Nat} {L : List ByteArray} (h : σ[o]? = some (mapP L)) (s : ByteArray) : aMapUpd prog σ 146 (.mapo o) (.val (.string s)) (.val (.bool true)) = some (σ.set o (mapP (insP L s))) := by
  simp only [aMapUpd, u146, h, mapP, u9, plainK, if_true, aFindK_str, insP]
  cases g : findS L s with
  | none =>
    simp only [Option.map_none, Option.isSome_none, Bool.false_eq_true, if_false, List.map_append, List.map_cons, List.map_nil, List.length_append, List.length_cons, List.length_nil, Nat.zero_add]
    rw [List.replicate_succ']
  | some i =>
    have hi := (findS_lt g).1
    simp only [Option.map_some, Nat.add_zero, List.length_replicate, hi, if_true, Option.isSome_some]
    rw [show (List.replicate L.length (bool true)).set i (.val (.bool true)) = List.replicate L.length (bool true) from set_self (by rw [List.getElem?_replicate, if_pos hi])]
theorem insP_new {L : List ByteArray} {s : ByteArray} (h : s ∉ L) : insP L s = L ++ [s] := by
  rw [insP, if_neg (fun g => h ((findS_iff L s).1 g))]
/-- Diagrams by their names. -/
def mapN (N : List (ByteArray × Nat)) : AO := .map ((N.map (·.1)).map Value.string) (N.map fun e => i64 ((e.2 : Nat) : Int))
def lookN (N : List (ByteArray × Nat)) (s : ByteArray) : Option Nat := (findS (N.map (·.1)) s).bind fun i => (N[i]?).map (·.2)
set_option maxRecDepth 100000 in
theorem lkN {σ : Sto} {o : Nat} {N : List (ByteArray × Nat)} (h : σ[o]? = some (mapN N)) (s : ByteArray) (ok : Bool) : aLookup prog σ 83 ok (.mapo o) (.val (.string s)) = some (if ok then .tup [i64 (((lookN N s).getD 0 : Nat) : Int), .val (.bool (lookN N s).isSome)] else i64 (((lookN N s).getD 0 : Nat) : Int)) := by
  simp only [aLookup, u83, mapParts, h, mapN, u9, plainK, if_true, aFindK_str, lookN]
  cases g : findS (N.map (·.1)) s with
  | none => simp only [Option.map_none, zero3]; cases ok <;> rfl
  | some i =>
    have hi := (findS_lt g).1
    rw [List.length_map] at hi
    simp only [Option.map_some, Nat.add_zero, Option.bind_some, List.getElem?_map, List.getElem?_eq_getElem hi]
    cases ok <;> rfl
theorem lkNf {σ : Sto} {o : Nat} {N : List (ByteArray × Nat)} (h : σ[o]? = some (mapN N)) (s : ByteArray) : aLookup prog σ 83 false (.mapo o) (.val (.string s)) = some (i64 (((lookN N s).getD 0 : Nat) : Int)) := lkN h s false
theorem lkNt {σ : Sto} {o : Nat} {N : List (ByteArray × Nat)} (h : σ[o]? = some (mapN N)) (s : ByteArray) : aLookup prog σ 83 true (.mapo o) (.val (.string s)) = some (.tup [i64 (((lookN N s).getD 0 : Nat) : Int), .val (.bool (lookN N s).isSome)]) := lkN h s true
set_option maxRecDepth 100000 in
theorem upN {σ : Sto} {o : Nat} {N : List (ByteArray × Nat)} (h : σ[o]? = some (mapN N)) {s : ByteArray} (hs : lookN N s = none) (n : Nat) : aMapUpd prog σ 83 (.mapo o) (.val (.string s)) (.val (.int .i64 ((n : Nat) : Int))) = some (σ.set o (mapN (N ++ [(s, n)]))) := by
  have hf : findS (N.map (·.1)) s = none := by
    cases g : findS (N.map (·.1)) s with
    | none => rfl
    | some i =>
      have hi := (findS_lt g).1
      rw [List.length_map] at hi
      simp [lookN, g, hi] at hs
  simp only [aMapUpd, u83, h, mapN, u9, plainK, if_true, aFindK_str, hf, Option.map_none, List.map_append, List.map_cons, List.map_nil]
theorem findS_app : ∀ (l : List ByteArray) (s t : ByteArray), findS (l ++ [s]) t = match findS l t with | some i => some i | none => if t = s then some l.length else none
  | [], s, t => by simp only [List.nil_append, findS]; split <;> rfl
  | x :: l, s, t => by
    simp only [List.cons_append, findS, findS_app l s t]
    by_cases h : t = x
    · simp [h]
    · simp only [h, if_false]
      cases findS l t with
      | none => simp only [Option.map_none]; split <;> simp
      | some j => rfl
theorem lookN_app (N : List (ByteArray × Nat)) (s t : ByteArray) (n : Nat) : lookN (N ++ [(s, n)]) t = match lookN N t with | some i => some i | none => if t = s then some n else none := by
  simp only [lookN, List.map_append, List.map_cons, List.map_nil, findS_app]
  cases g : findS (N.map (·.1)) t with
  | none =>
    simp only [Option.bind_none]
    by_cases h : t = s
    · simp [h]
    · simp [h]
  | some i =>
    have hi := (findS_lt g).1
    rw [List.length_map] at hi
    simp [hi, List.getElem?_append_left]
theorem findD_last (l : List Dgm) (d : Dgm) (s : ByteArray) : findD (l ++ [d]) s = match findD l s with | some i => some i | none => if d.name = s then some l.length else none := by
  unfold findD
  rw [List.findIdx?_append]
  cases l.findIdx? (fun d => decide (d.name = s)) with
  | some i => rfl
  | none =>
    by_cases h : d.name = s
    · simp [h, List.findIdx?_cons]
    · simp [h, List.findIdx?_cons]
theorem findD_mem {f : FileM} {d : Dgm} {i : Nat} (h : f.ds[i]? = some d) : ∃ j, findD f.ds d.name = some j := by
  cases g : findD f.ds d.name with
  | some j => exact ⟨j, rfl⟩
  | none =>
    unfold findD at g
    rw [List.findIdx?_eq_none_iff] at g
    have := g d (List.mem_of_getElem? h)
    simp at this
end Fl
end Go.Proofs.Tryd
/-! Flow: names and diagrams. -/
namespace Go.Proofs.Tryd
set_option linter.unusedSimpArgs false
set_option linter.unusedVariables false
open Go Go.Proofs.Ev
namespace Fl
theorem mapP_zero : AO.map [] [] = mapP [] := rfl
theorem mapP_bel (L : List ByteArray) (n : Nat) : AO.bel n (mapP L) = true := by
  show belL n (List.replicate L.length (bool true)) = true
  have := belL_map (n := n) (fun _ : ByteArray => bool true) L fun _ _ => rfl
  rwa [List.map_const'] at this
theorem set_bel {σ : Sto} {o n : Nat} {x : AO} (hx : x.bel n = true) (j : Nat) (a : AO) (h : (σ.set o x)[j]? = some a) : σ[j]? = some a ∨ a.bel n = true := by
  rw [List.getElem?_set] at h
  split at h
  · split at h
    · cases h
      exact .inr hx
    · cases h
  · exact .inl h
theorem spl_gen {l : List AV} {i : Nat} (h : i < l.length) (v : AV) : l.take i ++ v :: l.drop (i + 1) = l.set i v := by
  rw [List.set_eq_take_append_cons_drop, if_pos h]
/-- What the program says of a diagram. -/
def diaC (f : FileM) (i : Nat) (d : Dgm) : Int :=
  if namesM f i d = false then 6 else if d.outs.length = 0 then 10 else if rngB f d = false then 4 else if d.blocks.any (arB f) = true then 8 else match ord (lmat (hangL d)) d.blocks.length with
    | none => 9
    | some o => if typedB f d o = true then 0 else 7
theorem sm_set_ne {σ : Sto} {om o : Nat} (M : MapM) {x : AO} (ho : o < σ.length) (h : om ≠ o) (l : Sto) : (sm σ om M ++ l).set o x = sm (σ.set o x) om M ++ l := by
  rw [List.set_append_left _ _ (by rw [sm_len]; exact ho), sm, sm, List.set_comm _ _ h]
theorem sms_geta (σ : Sto) (o : Nat) (x : AO) (om : Nat) (M : MapM) (l : Sto) (k : Nat) : (sm (σ.set o x) om M ++ l)[σ.length + k]? = l[k]? := by
  have := sm_geta (σ.set o x) om M l k
  rwa [List.length_set] at this
theorem sms_geta0 (σ : Sto) (o : Nat) (x : AO) (om : Nat) (M : MapM) (l : Sto) : (sm (σ.set o x) om M ++ l)[σ.length]? = l[0]? := sms_geta σ o x om M l 0
theorem hangL_ok {d : Dgm} (hin : inB d) : ∀ x ∈ hangL d, ∀ k ∈ x, k < (hangL d).length := by
  intro x hx k hk
  obtain ⟨b, hb, rfl⟩ := List.mem_map.1 hx
  obtain ⟨s, hs, rfl⟩ := List.mem_map.1 hk
  obtain ⟨h1, h2⟩ := List.mem_filter.1 hs
  have := hin b hb s h1
  simp at h2
  rw [hangL_len]
  omega
theorem hangL_le {d : Dgm} (hS : ∀ b ∈ d.blocks, b.src.length ≤ 2000) : ∀ x ∈ hangL d, x.length ≤ maxLen := by
  intro x hx
  obtain ⟨b, hb, rfl⟩ := List.mem_map.1 hx
  have h1 : (hangB b b.src).length ≤ b.src.length := by simp only [hangB, List.length_map]; exact List.length_filter_le _ _
  have := hS b hb
  rw [maxLen_eq]
  omega
theorem newMapNil (σ : Sto) : aNewVar σ (.val (.map none)) = some (.ref σ.length 0, σ ++ [.cells [.val (.map none)]]) := rfl
end Fl
end Go.Proofs.Tryd
/-! Flow: function 79. -/
namespace Go.Proofs.Tryd
set_option linter.unusedSimpArgs false
set_option linter.unusedVariables false
open Go Go.Proofs.Ev
namespace Fl
variable {Γ : List (Nat × List AV)} {w : AV} {G : List (Nat × List AV)}
set_option maxRecDepth 100000 in
theorem from_calls {σ : Sto} {ot oty om i n : Nat} {fc nm : AV} {rest tys : List AV} (hT : TyAt σ ot oty om i n fc nm rest tys) (M : MapM) (b : Blk) (hl : b.src.length ≤ 2000) : APureOn prog Γ 79 [.ref ot 0, i64 ((i : Nat) : Int), b.enc] (sm σ om M) (rowAV 1 true ((b.src.map (lkM M)).map intA)) := by
  refine APureOn.of func79 rfl fun τ => ?_
  simp only [ntmps79, List.length_cons, List.length_nil, Nat.reduceAdd, Nat.reduceSub, List.replicate_succ, List.replicate_zero, List.cons_append, List.nil_append]
  rw [← sm_app hT.m M τ]
  have hT := hT.app τ
  generalize σ ++ τ = σ at hT ⊢
  have g1 := fun (M : MapM) (l : Sto) => sm_ne (M := M) hT.t hT.n1 l
  have g2 := fun (M : MapM) (l : Sto) => sm_ne (M := M) hT.ty hT.n2 l
  have g3 := fun (M : MapM) (l : Sto) => sm_at hT.m M l
  have hat := at_osl (o := oty) (k := .i64) hT.lt
  have hdr := dr_at hT.at_
  have hot := hT.ot_lt
  have hlb : b.src.length ≤ maxLen := by rw [maxLen_eq]; omega
  refine AW.regl false [5, 6] (by rfl) fun K1 hK1 => ?_ -- region 0
  simp only [go_sem, Nat.reduceAdd, Nat.reduceEqDiff, Nat.reduceLeDiff, true_and, List.length_map, len_row, one_row, List.drop_zero, blk_len, dgm_len, port_len, out_len, src_len, file_len, src_get, port_get, out_get, blk_get, dgm_get, file_get, dgm_all, blk_all, src_all, port_all, out_all, file_all, sm_len, sm_geta, sm_geta0, sm_seta, sm_seta0, g1, g2, hat, hdr]
  refine hK1 _ _ ?_; try clear hK1 K1
  conv => enter [5]; simp only [setL_cons, setL_nil, List.set_cons_zero, List.set_cons_succ]
  refine AW.regl false [7] (by rfl) fun K2 hK2 => ?_ -- region 1
  simp only [go_sem, Nat.reduceAdd, Nat.reduceEqDiff, Nat.reduceLeDiff, true_and, List.length_map, len_row, one_row, List.drop_zero, blk_len, dgm_len, port_len, out_len, src_len, file_len, src_get, port_get, out_get, blk_get, dgm_get, file_get, dgm_all, blk_all, src_all, port_all, out_all, file_all, sm_len, sm_geta, sm_geta0, sm_seta, sm_seta0, g1, g2, hat, hdr]
  refine hK2 _ _ ?_; try clear hK2 K2
  conv => enter [5]; simp only [setL_cons, setL_nil, List.set_cons_zero, List.set_cons_succ]
  refine AW.cap 1 ?_
  try simp only [List.append_assoc, List.cons_append, List.nil_append]
  refine AW.ownT 7 (σ.length + 1) rfl ((sm_geta σ om M _ 1).trans rfl) (by decide) ?_
  try simp only [List.set_cons_zero, List.set_cons_succ]
  refine AW.seq_k fun K3 hK3 => ?_
  refine AW.regl false [11, 12, 13] (by rfl) fun K4 hK4 => ?_ -- region 2
  simp only [go_sem, Nat.reduceAdd, Nat.reduceEqDiff, Nat.reduceLeDiff, true_and, List.length_map, len_row, one_row, List.drop_zero, blk_len, dgm_len, port_len, out_len, src_len, file_len, src_get, port_get, out_get, blk_get, dgm_get, file_get, dgm_all, blk_all, src_all, port_all, out_all, file_all, sm_len, sm_geta, sm_geta0, sm_seta, sm_seta0, g1, g2, hat, hdr, Blk.enc]
  refine hK4 _ _ ?_; try clear hK4 K4
  conv => enter [5]; simp only [setL_cons, setL_nil, List.set_cons_zero, List.set_cons_succ]
  refine AW.block ?_
  refine AW.loop_dr (α := Nat) (fun j => [(.ref ot 0), (.val (.int .i64 ((i : Nat) : Int))), .any, .any, .any, .any, .any, (.slo true 1 (((b.src.take j).map (lkM M)).map intA) (σ.length + 1)), .any, .any, .any, (rowAV 2 b.nl (b.src.map Src.enc)), (.val (.int .i64 ((b.src.length : Nat) : Int))), (.val (.int .i64 ((j : Nat) : Int))), .any, .any, .any, .any, .any, .any, .any, .any, .any, .any, .any, .any, .any, .any, .any, .any, .any]) (fun j => sm σ om M ++ [.cells (Blk.enc b).cells, .cap j 1]) (fun j => b.src.length - j) (fun j => j ≤ b.src.length) 0 ?_ ?_ ?_
  · exact ⟨Nat.zero_le _, by simp [Wk], rfl⟩
  · refine fun y _ => ⟨?_, sm_bela σ om fun a ha => ?_⟩
    · simp only [belL, AV.bel, Bool.and_true, Bool.true_and, Bool.and_eq_true, decide_eq_true_eq, sm_len, List.length_append, List.length_cons, List.length_nil, row_bel src_bel, row_bel blk_bel, row_bel port_bel, row_bel out_bel, row_bel int_bel, row_bel nat_bel, row_bel str_bel, belL_map intA _ fun _ _ => int_bel _ _, and_true, true_and, Nat.reduceAdd]
      try omega
    · simp only [List.mem_cons, List.not_mem_nil, or_false] at ha
      rcases ha with rfl | rfl
      · exact blk_cb b _
      · rfl
  · intro j hi
    refine AW.regl false [14] (by rfl) fun K5 hK5 => ?_ -- region 3
    simp only [go_sem, Nat.reduceAdd, Nat.reduceEqDiff, Nat.reduceLeDiff, true_and, List.length_map, len_row, one_row, List.drop_zero, blk_len, dgm_len, port_len, out_len, src_len, file_len, src_get, port_get, out_get, blk_get, dgm_get, file_get, dgm_all, blk_all, src_all, port_all, out_all, file_all, sm_len, sm_geta, sm_geta0, sm_seta, sm_seta0, g1, g2, hat, hdr]
    refine hK5 _ _ ?_; try clear hK5 K5
    conv => enter [5]; simp only [setL_cons, setL_nil, List.set_cons_zero, List.set_cons_succ]
    refine AW.seq_k fun K6 hK6 => ?_
    refine AW.cond rfl (fun hc14 => ?_) (fun hc14 => ?_)
    · skip
      have hj1 : j < b.src.length := by simpa using hc14
      obtain ⟨s, hsi⟩ : ∃ z, z = b.src[j] := ⟨_, rfl⟩
      have hx : (b.src.map Src.enc)[j]? = some s.enc := by rw [hsi]; simp [hj1]
      have hlen : ((b.src.take j).map (lkM M)).length = j := by simp; omega
      have hap := fun σ k => ap_int (l := (b.src.take j).map (lkM M)) (by omega) true (lkM M s) σ k
      simp only [hlen] at hap
      have htk : (b.src.take (j + 1)).map (lkM M) = (b.src.take j).map (lkM M) ++ [lkM M s] := by rw [List.take_succ_eq_append_getElem hj1, List.map_append, hsi]; rfl
      have hlk := fun l => lk88f (g3 M l) s.block s.port
      rw [show (look M (s.block, s.port)).getD 0 = lkM M s from rfl] at hlk
      refine AW.skip ?_
      refine hK6 _ _ ?_; try clear hK6 K6
      refine AW.seq_k fun K7 hK7 => ?_
      refine AW.block ?_
      refine AW.regl false [9] (by rfl) fun K8 hK8 => ?_ -- region 4
      simp only [go_sem, Nat.reduceAdd, Nat.reduceEqDiff, Nat.reduceLeDiff, true_and, List.length_map, len_row, one_row, List.drop_zero, blk_len, dgm_len, port_len, out_len, src_len, file_len, src_get, port_get, out_get, blk_get, dgm_get, file_get, dgm_all, blk_all, src_all, port_all, out_all, file_all, sm_len, sm_geta, sm_geta0, sm_seta, sm_seta0, g1, g2, hat, hdr, at_row hx]
      refine hK8 _ _ ?_; try clear hK8 K8
      conv => enter [5]; simp only [setL_cons, setL_nil, List.set_cons_zero, List.set_cons_succ, upd_none, upd_at]
      refine AW.lastml mixed false [7] 11 (by kernel_rfl) (by kernel_rfl) (by rfl) fun K hK => ?_ -- region 5
      simp only [go_sem, Nat.reduceAdd, Nat.reduceEqDiff, Nat.reduceLeDiff, true_and, List.length_map, len_row, one_row, List.drop_zero, blk_len, dgm_len, port_len, out_len, src_len, file_len, src_get, port_get, out_get, blk_get, dgm_get, file_get, dgm_all, blk_all, src_all, port_all, out_all, file_all, sm_len, sm_geta, sm_geta0, sm_seta, sm_seta0, g1, g2, hat, hdr, Src.enc, hlk, hap]
      refine hK _ _ fun env' hw => ?_
      simp only [setL_cons, setL_nil, List.set_cons_zero, List.set_cons_succ, upd_none, upd_at] at hw
      refine hK7 _ _ (AW.weaken hw ?_); clear hw; try clear hK7 K7
      refine AW.lastl false [13] (by rfl) fun K hK => ?_ -- region 6
      simp only [go_sem, Nat.reduceAdd, Nat.reduceEqDiff, Nat.reduceLeDiff, true_and, List.length_map, len_row, one_row, List.drop_zero, blk_len, dgm_len, port_len, out_len, src_len, file_len, src_get, port_get, out_get, blk_get, dgm_get, file_get, dgm_all, blk_all, src_all, port_all, out_all, file_all, sm_len, sm_geta, sm_geta0, sm_seta, sm_seta0, g1, g2, hat, hdr]
      refine hK _ _ fun env' hw => ?_
      simp only [setL_cons, setL_nil, List.set_cons_zero, List.set_cons_succ] at hw
      refine ⟨j + 1, by omega, by omega, ?_, by first | rfl | (simp [List.take_append, List.take_of_length_le]; done) | (simp [List.take_append, List.take_of_length_le]; repeat' constructor)⟩
      refine hw.trans ?_
      simp [Wk, wrap_succ hj1 hlb, htk]
      try omega
    · skip
      have hj1 : j = b.src.length := by
        have : ¬ j < b.src.length := by simpa using hc14
        omega
      refine AW.exit ?_
      refine hK3 _ _ ?_; try clear hK3 K3
      refine AW.regl false [6] (by rfl) fun K9 hK9 => ?_ -- region 7
      simp only [go_sem, Nat.reduceAdd, Nat.reduceEqDiff, Nat.reduceLeDiff, true_and, List.length_map, len_row, one_row, List.drop_zero, blk_len, dgm_len, port_len, out_len, src_len, file_len, src_get, port_get, out_get, blk_get, dgm_get, file_get, dgm_all, blk_all, src_all, port_all, out_all, file_all, sm_len, sm_geta, sm_geta0, sm_seta, sm_seta0, g1, g2, hat, hdr]
      refine hK9 _ _ ?_; try clear hK9 K9
      conv => enter [5]; simp only [setL_cons, setL_nil, List.set_cons_zero, List.set_cons_succ]
      refine AW.ret ⟨.inr rfl, _, rfl, by simp, ?_⟩ -- return 1
      rw [hj1, List.take_length]
      exact frz_row int_bel (by rw [sm_len]; omega) _
end Fl
end Go.Proofs.Tryd
/-! Flow: function 78. -/
namespace Go.Proofs.Tryd
set_option linter.unusedSimpArgs false
set_option linter.unusedVariables false
open Go Go.Proofs.Ev
namespace Fl
variable {Γ : List (Nat × List AV)} {w : AV} {G : List (Nat × List AV)}
set_option maxRecDepth 100000 in
theorem sub_calls {σ : Sto} {ot oty om i n : Nat} {fc nm : AV} {rest tys : List AV} (hT : TyAt σ ot oty om i n fc nm rest tys) (f : FileM) (hfc : fc = rowAV 4 f.nl (f.ds.map Dgm.enc)) (M : MapM) (k : Nat) (b : Blk) (hl : b.src.length ≤ 2000) (u : Nat) (e : Dgm) (hu : b.sub = (u : Int)) (he : f.ds[u]? = some e) (hio : e.ins.length = b.src.length) (heo : e.outs.length ≤ 2000) : ACalls prog Γ 78 [.ref ot 0, i64 ((i : Nat) : Int), i64 ((k : Nat) : Int), b.enc] (sm σ om M) (fun v σ' => σ' = sm σ om (subR f M k b).2 ∧ v = .val (.bool (subR f M k b).1)) := by
  refine ACalls.ofT func78 rfl ?_
  simp only [ntmps78, List.length_cons, List.length_nil, Nat.reduceAdd, Nat.reduceSub, List.replicate_succ, List.replicate_zero, List.cons_append, List.nil_append]
  subst hfc
  have g1 := fun (M : MapM) (l : Sto) => sm_ne (M := M) hT.t hT.n1 l
  have g2 := fun (M : MapM) (l : Sto) => sm_ne (M := M) hT.ty hT.n2 l
  have g3 := fun (M : MapM) (l : Sto) => sm_at hT.m M l
  have hat := at_osl (o := oty) (k := .i64) hT.lt
  have hdr := dr_at hT.at_
  have hot := hT.ot_lt
  obtain ⟨T, hTT⟩ : ∃ z, z = b.src.map (lkM M) := ⟨_, rfl⟩
  have hfr := from_calls (Γ := Γ) hT M b hl
  rw [← hTT] at hfr
  have hTl : T.length = b.src.length := by rw [hTT]; simp
  have hz : (f.ds.map Dgm.enc)[u]? = some e.enc := by simp [he]
  have hins : insT f b = e.ins.map (·.type) := by simp only [insT, hu, Int.toNat_natCast, he]
  have hout : outT f b = e.outs.map (·.port.type) := by simp only [outT, hu, Int.toNat_natCast, he]
  have hlO : e.outs.length ≤ maxLen := by rw [maxLen_eq]; omega
  have hlT : T.length ≤ maxLen := by rw [maxLen_eq]; omega
  have hil : (insT f b).length = T.length := by rw [hins, hTl, ← hio]; simp
  refine AW.regl false [7, 8] (by rfl) fun K1 hK1 => ?_ -- region 0
  simp only [go_sem, Nat.reduceAdd, Nat.reduceEqDiff, Nat.reduceLeDiff, true_and, List.length_map, len_row, one_row, List.drop_zero, blk_len, dgm_len, port_len, out_len, src_len, file_len, src_get, port_get, out_get, blk_get, dgm_get, file_get, dgm_all, blk_all, src_all, port_all, out_all, file_all, sm_len, sm_geta, sm_geta0, sm_seta, sm_seta0, g1, g2, hat, hdr]
  refine hK1 _ _ ?_; try clear hK1 K1
  conv => enter [5]; simp only [setL_cons, setL_nil, List.set_cons_zero, List.set_cons_succ]
  refine AW.regch mixed [sm σ om M ++ [.cells (Blk.enc b).cells], sm σ om M ++ [.cells b.enc.cells, .cells [str ⟨#[]⟩, .nilsl, .nilsl, .nilsl]], sm σ om M ++ [.cells b.enc.cells, .cells e.enc.cells]] [(0, 1, true), (0, 1, true), (0, 1, true), (0, 1, true), (0, 1, true), (0, 1, true), (0, 1, true), (0, 1, true), (0, 1, true), (0, 0, false), (0, 0, false)] [9] (by kernel_rfl) (by rfl) (by kernel_rfl) (by rfl) fun K2 hK2 => ?_ -- region 1
  simp only [go_sem, Nat.reduceAdd, Nat.reduceEqDiff, Nat.reduceLeDiff, true_and, List.length_map, len_row, one_row, List.drop_zero, blk_len, dgm_len, port_len, out_len, src_len, file_len, src_get, port_get, out_get, blk_get, dgm_get, file_get, dgm_all, blk_all, src_all, port_all, out_all, file_all, sm_len, sm_geta, sm_geta0, sm_seta, sm_seta0, g1, g2, hat, hdr, Blk.enc, hu, at_row hz, List.append_assoc, List.cons_append, List.nil_append]
  refine xE.of (by first | rfl | (simp; done) | (simp; repeat' constructor)) ?_
  simp only [go_sem, Nat.reduceAdd, Nat.reduceEqDiff, Nat.reduceLeDiff, true_and, List.length_map, len_row, one_row, List.drop_zero, blk_len, dgm_len, port_len, out_len, src_len, file_len, src_get, port_get, out_get, blk_get, dgm_get, file_get, dgm_all, blk_all, src_all, port_all, out_all, file_all, sm_len, sm_geta, sm_geta0, sm_seta, sm_seta0, g1, g2, hat, hdr, Blk.enc, hu, at_row hz, List.append_assoc, List.cons_append, List.nil_append]
  refine xE.of (by first | rfl | (simp; done) | (simp; repeat' constructor)) ?_
  simp only [go_sem, Nat.reduceAdd, Nat.reduceEqDiff, Nat.reduceLeDiff, true_and, List.length_map, len_row, one_row, List.drop_zero, blk_len, dgm_len, port_len, out_len, src_len, file_len, src_get, port_get, out_get, blk_get, dgm_get, file_get, dgm_all, blk_all, src_all, port_all, out_all, file_all, sm_len, sm_geta, sm_geta0, sm_seta, sm_seta0, g1, g2, hat, hdr, Blk.enc, hu, at_row hz, List.append_assoc, List.cons_append, List.nil_append]
  refine hK2 _ ?_; try clear hK2 K2
  conv => enter [5]; simp only [setL_cons, setL_nil, List.set_cons_zero, List.set_cons_succ, upd_none, upd_at]
  show AW _ _ _ _ _ (sm σ om M ++ [.cells b.enc.cells, .cells e.enc.cells]) _
  refine AW.seq_k fun K3 hK3 => ?_
  refine AW.regl false [26, 27, 28] (by rfl) fun K4 hK4 => ?_ -- region 2
  simp only [go_sem, Nat.reduceAdd, Nat.reduceEqDiff, Nat.reduceLeDiff, true_and, List.length_map, len_row, one_row, List.drop_zero, blk_len, dgm_len, port_len, out_len, src_len, file_len, src_get, port_get, out_get, blk_get, dgm_get, file_get, dgm_all, blk_all, src_all, port_all, out_all, file_all, sm_len, sm_geta, sm_geta0, sm_seta, sm_seta0, g1, g2, hat, hdr]
  refine sC.of en79 (hfr.more _).here (by rfl) ?_
  simp only [go_sem, Nat.reduceAdd, Nat.reduceEqDiff, Nat.reduceLeDiff, true_and, List.length_map, len_row, one_row, List.drop_zero, blk_len, dgm_len, port_len, out_len, src_len, file_len, src_get, port_get, out_get, blk_get, dgm_get, file_get, dgm_all, blk_all, src_all, port_all, out_all, file_all, sm_len, sm_geta, sm_geta0, sm_seta, sm_seta0, g1, g2, hat, hdr]
  refine hK4 _ _ ?_; try clear hK4 K4
  conv => enter [5]; simp only [setL_cons, setL_nil, List.set_cons_zero, List.set_cons_succ]
  refine AW.block ?_
  refine AW.loop_wk (α := Nat) (fun j => [(.ref ot 0), (.val (.int .i64 ((i : Nat) : Int))), (.val (.int .i64 ((k : Nat) : Int))), .any, .any, .any, .any, .any, .any, (.ref (σ.length + 1) 0), .any, .any, .any, .any, .any, .any, .any, .any, .any, .any, .any, .any, .any, .any, .any, .any, (rowAV 1 true (T.map intA)), (.val (.int .i64 ((T.length : Nat) : Int))), (.val (.int .i64 ((j : Nat) : Int))), .any, .any, .any, .any, .any, .any, .any, .any, .any, .any, .any, .any, .any, .any, .any, .any, .any, .any, .any, .any, .any, .any, .any, .any, .any, .any, .any, .any, .any, .any, .any, .any, .any, .any, .any]) (fun j => sm σ om M ++ [.cells (Blk.enc b).cells, .cells (Dgm.enc e).cells]) (fun j => T.length - j) (fun j => j ≤ T.length ∧ T.take j = (insT f b).take j) 0 ?_ ?_
  · exact ⟨⟨Nat.zero_le _, rfl⟩, by simp [Wk], rfl⟩
  · rintro j ⟨hj, htj⟩
    refine AW.regl false [29] (by rfl) fun K5 hK5 => ?_ -- region 3
    simp only [go_sem, Nat.reduceAdd, Nat.reduceEqDiff, Nat.reduceLeDiff, true_and, List.length_map, len_row, one_row, List.drop_zero, blk_len, dgm_len, port_len, out_len, src_len, file_len, src_get, port_get, out_get, blk_get, dgm_get, file_get, dgm_all, blk_all, src_all, port_all, out_all, file_all, sm_len, sm_geta, sm_geta0, sm_seta, sm_seta0, g1, g2, hat, hdr]
    refine hK5 _ _ ?_; try clear hK5 K5
    conv => enter [5]; simp only [setL_cons, setL_nil, List.set_cons_zero, List.set_cons_succ]
    refine AW.seq_k fun K6 hK6 => ?_
    refine AW.cond rfl (fun hc29 => ?_) (fun hc29 => ?_)
    · skip
      have hj1 : j < T.length := by simpa using hc29
      have hj1 : j < T.length := by simpa using hc29
      have hj2 : j < (insT f b).length := by omega
      have hj3 : j < e.ins.length := by omega
      obtain ⟨p, hp⟩ : ∃ z, e.ins[j]? = some z := ⟨_, List.getElem?_eq_getElem hj3⟩
      have hw' : (e.ins.map PortM.enc)[j]? = some p.enc := by simp [hp]
      have hpt : p.type = (insT f b).getD j 0 := by rw [hins]; simp [List.getD_eq_getElem?_getD, hp]
      have hrj := rowT (k := .i64) hj1 true
      have hg1 : T.getD j 0 = T[j] := by simp [List.getD_eq_getElem?_getD, hj1]
      have hg2 : (insT f b).getD j 0 = (insT f b)[j] := by simp [List.getD_eq_getElem?_getD, hj2]
      refine AW.skip ?_
      refine hK6 _ _ ?_; try clear hK6 K6
      refine AW.seq_k fun K7 hK7 => ?_
      refine AW.block ?_
      refine AW.regl false [10, 11] (by rfl) fun K8 hK8 => ?_ -- region 4
      simp only [go_sem, Nat.reduceAdd, Nat.reduceEqDiff, Nat.reduceLeDiff, true_and, List.length_map, len_row, one_row, List.drop_zero, blk_len, dgm_len, port_len, out_len, src_len, file_len, src_get, port_get, out_get, blk_get, dgm_get, file_get, dgm_all, blk_all, src_all, port_all, out_all, file_all, sm_len, sm_geta, sm_geta0, sm_seta, sm_seta0, g1, g2, hat, hdr, hrj]
      refine hK8 _ _ ?_; try clear hK8 K8
      conv => enter [5]; simp only [setL_cons, setL_nil, List.set_cons_zero, List.set_cons_succ]
      refine AW.regl false [40] (by rfl) fun K9 hK9 => ?_ -- region 5
      simp only [go_sem, Nat.reduceAdd, Nat.reduceEqDiff, Nat.reduceLeDiff, true_and, List.length_map, len_row, one_row, List.drop_zero, blk_len, dgm_len, port_len, out_len, src_len, file_len, src_get, port_get, out_get, blk_get, dgm_get, file_get, dgm_all, blk_all, src_all, port_all, out_all, file_all, sm_len, sm_geta, sm_geta0, sm_seta, sm_seta0, g1, g2, hat, hdr, Dgm.enc, at_row hw', PortM.enc, hpt]
      refine hK9 _ _ ?_; try clear hK9 K9
      conv => enter [5]; simp only [setL_cons, setL_nil, List.set_cons_zero, List.set_cons_succ]
      refine AW.cond rfl (fun hc40 => ?_) (fun hc40 => ?_)
      · skip
        have hne : ¬ b.src.map (lkM M) = insT f b := fun e => by rw [← hTT] at e; rw [e] at hc40; simp at hc40
        have hsub : subR f M k b = (false, M) := by rw [subR, if_neg hne]
        refine AW.regl false [8] (by rfl) fun K10 hK10 => ?_ -- region 6
        simp only [go_sem, Nat.reduceAdd, Nat.reduceEqDiff, Nat.reduceLeDiff, true_and, List.length_map, len_row, one_row, List.drop_zero, blk_len, dgm_len, port_len, out_len, src_len, file_len, src_get, port_get, out_get, blk_get, dgm_get, file_get, dgm_all, blk_all, src_all, port_all, out_all, file_all, sm_len, sm_geta, sm_geta0, sm_seta, sm_seta0, g1, g2, hat, hdr]
        refine hK10 _ _ ?_; try clear hK10 K10
        conv => enter [5]; simp only [setL_cons, setL_nil, List.set_cons_zero, List.set_cons_succ]
        exact AW.ret ⟨.inr rfl, _, rfl, sm σ om M, _, rfl, rfl, fun _ _ h => .inl h, rfl, by rw [hsub], by rw [hsub]⟩
      · skip
        have heq : T[j] = (insT f b)[j] := by rw [← hg1, ← hg2]; simpa using hc40
        refine AW.skip ?_
        refine hK7 _ _ ?_; try clear hK7 K7
        refine AW.lastl false [28] (by rfl) fun K hK => ?_ -- region 7
        simp only [go_sem, Nat.reduceAdd, Nat.reduceEqDiff, Nat.reduceLeDiff, true_and, List.length_map, len_row, one_row, List.drop_zero, blk_len, dgm_len, port_len, out_len, src_len, file_len, src_get, port_get, out_get, blk_get, dgm_get, file_get, dgm_all, blk_all, src_all, port_all, out_all, file_all, sm_len, sm_geta, sm_geta0, sm_seta, sm_seta0, g1, g2, hat, hdr]
        refine hK _ _ fun env' hw => ?_
        simp only [setL_cons, setL_nil, List.set_cons_zero, List.set_cons_succ] at hw
        refine ⟨j + 1, by omega, ⟨by omega, by rw [List.take_succ_eq_append_getElem hj1, List.take_succ_eq_append_getElem hj2, htj, heq]⟩, ?_, rfl⟩
        refine hw.trans ?_
        simp [Wk, wrap_succ hj1 hlT]
        try omega
    · skip
      have hj1 : j = T.length := by
        have : ¬ j < T.length := by simpa using hc29
        omega
      have hTe : b.src.map (lkM M) = insT f b := by rw [hj1, List.take_length, List.take_of_length_le (by omega)] at htj; rw [← hTT]; exact htj
      have hsub : subR f M k b = (true, putU (fun j : Nat => (((k : Nat) : Int), ((j : Nat) : Int))) M (outT f b) 0) := by rw [subR, if_pos hTe]
      refine AW.exit ?_
      refine hK3 _ _ ?_; try clear hK3 K3
      refine AW.seq_k fun K11 hK11 => ?_
      refine AW.regl false [43, 44, 45] (by rfl) fun K12 hK12 => ?_ -- region 8
      simp only [go_sem, Nat.reduceAdd, Nat.reduceEqDiff, Nat.reduceLeDiff, true_and, List.length_map, len_row, one_row, List.drop_zero, blk_len, dgm_len, port_len, out_len, src_len, file_len, src_get, port_get, out_get, blk_get, dgm_get, file_get, dgm_all, blk_all, src_all, port_all, out_all, file_all, sm_len, sm_geta, sm_geta0, sm_seta, sm_seta0, g1, g2, hat, hdr, Dgm.enc]
      refine hK12 _ _ ?_; try clear hK12 K12
      conv => enter [5]; simp only [setL_cons, setL_nil, List.set_cons_zero, List.set_cons_succ]
      refine AW.block ?_
      refine AW.loop_dr (α := Nat) (fun j => [(.ref ot 0), (.val (.int .i64 ((i : Nat) : Int))), (.val (.int .i64 ((k : Nat) : Int))), .any, .any, .any, .any, .any, .any, .any, .any, .any, .any, .any, .any, .any, .any, .any, .any, .any, .any, .any, .any, .any, .any, .any, .any, .any, .any, .any, .any, .any, .any, .any, .any, .any, .any, .any, .any, .any, .any, .any, .any, (rowAV 4 e.nlO (e.outs.map OutM.enc)), (.val (.int .i64 ((e.outs.length : Nat) : Int))), (.val (.int .i64 ((j : Nat) : Int))), .any, .any, .any, .any, .any, .any, .any, .any, .any, .any, .any, .any, .any, .any, .any, .any, .any, .any]) (fun j => sm σ om (putU (fun j : Nat => (((k : Nat) : Int), ((j : Nat) : Int))) M ((outT f b).take j) 0) ++ [.cells b.enc.cells, .cells e.enc.cells]) (fun j => e.outs.length - j) (fun j => j ≤ e.outs.length) 0 ?_ ?_ ?_
      · exact ⟨Nat.zero_le _, by simp [Wk], rfl⟩
      · refine fun y _ => ⟨?_, sm_bela σ om fun a ha => ?_⟩
        · simp only [belL, AV.bel, Bool.and_true, Bool.true_and, Bool.and_eq_true, decide_eq_true_eq, sm_len, List.length_append, List.length_cons, List.length_nil, row_bel src_bel, row_bel blk_bel, row_bel port_bel, row_bel out_bel, row_bel int_bel, row_bel nat_bel, row_bel str_bel, belL_map intA _ fun _ _ => int_bel _ _, and_true, true_and, Nat.reduceAdd]
          try omega
        · simp only [List.mem_cons, List.not_mem_nil, or_false] at ha
          rcases ha with rfl | rfl
          · exact blk_cb b _
          · exact dgm_cb e _
      · intro j hi
        refine AW.regl false [46] (by rfl) fun K13 hK13 => ?_ -- region 9
        simp only [go_sem, Nat.reduceAdd, Nat.reduceEqDiff, Nat.reduceLeDiff, true_and, List.length_map, len_row, one_row, List.drop_zero, blk_len, dgm_len, port_len, out_len, src_len, file_len, src_get, port_get, out_get, blk_get, dgm_get, file_get, dgm_all, blk_all, src_all, port_all, out_all, file_all, sm_len, sm_geta, sm_geta0, sm_seta, sm_seta0, g1, g2, hat, hdr]
        refine hK13 _ _ ?_; try clear hK13 K13
        conv => enter [5]; simp only [setL_cons, setL_nil, List.set_cons_zero, List.set_cons_succ]
        refine AW.seq_k fun K14 hK14 => ?_
        refine AW.cond rfl (fun hc46 => ?_) (fun hc46 => ?_)
        · skip
          have hj1 : j < e.outs.length := by simpa using hc46
          obtain ⟨o, hod⟩ : ∃ z, z = e.outs[j] := ⟨_, rfl⟩
          have hy : (e.outs.map OutM.enc)[j]? = some o.enc := by rw [hod]; simp [hj1]
          have hj2 : j < (outT f b).length := by rw [hout]; simpa using hj1
          have hoj : (outT f b)[j] = o.port.type := by simp [hout, hod]
          have hup := fun M' l => up88 (g3 M' l) ((k : Nat) : Int) ((j : Nat) : Int) o.port.type
          simp only [sm_set hT.m] at hup
          refine AW.skip ?_
          refine hK14 _ _ ?_; try clear hK14 K14
          refine AW.seq_k fun K15 hK15 => ?_
          refine AW.block ?_
          refine AW.regl false [13, 12] (by rfl) fun K16 hK16 => ?_ -- region 10
          simp only [go_sem, Nat.reduceAdd, Nat.reduceEqDiff, Nat.reduceLeDiff, true_and, List.length_map, len_row, one_row, List.drop_zero, blk_len, dgm_len, port_len, out_len, src_len, file_len, src_get, port_get, out_get, blk_get, dgm_get, file_get, dgm_all, blk_all, src_all, port_all, out_all, file_all, sm_len, sm_geta, sm_geta0, sm_seta, sm_seta0, g1, g2, hat, hdr, at_row hy]
          refine hK16 _ _ ?_; try clear hK16 K16
          conv => enter [5]; simp only [setL_cons, setL_nil, List.set_cons_zero, List.set_cons_succ, upd_none, upd_at]
          refine AW.lastml mixed false [] 13 (by kernel_rfl) (by kernel_rfl) (by rfl) fun K hK => ?_ -- region 11
          simp only [go_sem, Nat.reduceAdd, Nat.reduceEqDiff, Nat.reduceLeDiff, true_and, List.length_map, len_row, one_row, List.drop_zero, blk_len, dgm_len, port_len, out_len, src_len, file_len, src_get, port_get, out_get, blk_get, dgm_get, file_get, dgm_all, blk_all, src_all, port_all, out_all, file_all, sm_len, sm_geta, sm_geta0, sm_seta, sm_seta0, g1, g2, hat, hdr, OutM.enc, hup]
          refine hK _ _ fun env' hw => ?_
          simp only [setL_cons, setL_nil, List.set_cons_zero, List.set_cons_succ, upd_none, upd_at] at hw
          refine hK15 _ _ (AW.weaken hw ?_); clear hw; try clear hK15 K15
          refine AW.lastl false [45] (by rfl) fun K hK => ?_ -- region 12
          simp only [go_sem, Nat.reduceAdd, Nat.reduceEqDiff, Nat.reduceLeDiff, true_and, List.length_map, len_row, one_row, List.drop_zero, blk_len, dgm_len, port_len, out_len, src_len, file_len, src_get, port_get, out_get, blk_get, dgm_get, file_get, dgm_all, blk_all, src_all, port_all, out_all, file_all, sm_len, sm_geta, sm_geta0, sm_seta, sm_seta0, g1, g2, hat, hdr]
          refine hK _ _ fun env' hw => ?_
          simp only [setL_cons, setL_nil, List.set_cons_zero, List.set_cons_succ] at hw
          refine ⟨j + 1, by omega, by omega, ?_, ?_⟩
          · refine hw.trans ?_
            simp [Wk, wrap_succ hj1 hlO]
          · rw [putU_take hj2, hoj]
            simp [List.take_append, List.take_of_length_le, sm_len]
        · skip
          have hj1 : j = e.outs.length := by
            have : ¬ j < e.outs.length := by simpa using hc46
            omega
          refine AW.exit ?_
          refine hK11 _ _ ?_; try clear hK11 K11
          refine AW.regl false [8] (by rfl) fun K17 hK17 => ?_ -- region 13
          simp only [go_sem, Nat.reduceAdd, Nat.reduceEqDiff, Nat.reduceLeDiff, true_and, List.length_map, len_row, one_row, List.drop_zero, blk_len, dgm_len, port_len, out_len, src_len, file_len, src_get, port_get, out_get, blk_get, dgm_get, file_get, dgm_all, blk_all, src_all, port_all, out_all, file_all, sm_len, sm_geta, sm_geta0, sm_seta, sm_seta0, g1, g2, hat, hdr]
          refine hK17 _ _ ?_; try clear hK17 K17
          conv => enter [5]; simp only [setL_cons, setL_nil, List.set_cons_zero, List.set_cons_succ]
          exact AW.ret ⟨.inr rfl, _, rfl, sm σ om (putU (fun j : Nat => (((k : Nat) : Int), ((j : Nat) : Int))) M (outT f b) 0), _, by rw [hj1, List.take_of_length_le (by rw [hout]; simp)], by rw [sm_len, sm_len], fun i a h => sm_keep i a h, rfl, by rw [hsub], by rw [hsub]⟩
theorem sub_at {σ : Sto} {ot oty om i n : Nat} {fc nm : AV} {rest tys : List AV} (hT : TyAt σ ot oty om i n fc nm rest tys) (f : FileM) (hfc : fc = rowAV 4 f.nl (f.ds.map Dgm.enc)) (M : MapM) (k : Nat) (b : Blk) (hl : b.src.length ≤ 2000) (u : Nat) (e : Dgm) (hu : b.sub = (u : Int)) (he : f.ds[u]? = some e) (hio : e.ins.length = b.src.length) (heo : e.outs.length ≤ 2000) (τ : Sto) : ACalls prog Γ 78 [.ref ot 0, i64 ((i : Nat) : Int), i64 ((k : Nat) : Int), b.enc] (sm σ om M ++ τ) (fun v σ' => σ' = sm σ om (subR f M k b).2 ++ τ ∧ v = .val (.bool (subR f M k b).1)) := by
  have := sub_calls (Γ := Γ) (hT.app τ) f hfc M k b hl u e hu he hio heo
  rwa [sm_app hT.m, sm_app hT.m] at this
end Fl
end Go.Proofs.Tryd
/-! Flow: function 81. -/
namespace Go.Proofs.Tryd
set_option linter.unusedSimpArgs false
set_option linter.unusedVariables false
open Go Go.Proofs.Ev
namespace Fl
variable {Γ : List (Nat × List AV)} {w : AV} {G : List (Nat × List AV)}
set_option maxRecDepth 100000 in
theorem outT_fn {σ : Sto} {ot oty om i n : Nat} {fc nm : AV} {rest tys : List AV} (hT : TyAt σ ot oty om i n fc nm rest tys) (M : MapM) (o : OutM) {o1 o2 : Nat} (h1 : σ[o1]? = some (.cells [.ref ot 0])) (h2 : σ[o2]? = some (.cells [i64 ((i : Nat) : Int)])) (n1 : om ≠ o1) (n2 : om ≠ o2) : APureOn prog Γ 81 [o.enc, .ref o1 0, .ref o2 0] (sm σ om M) (.val (.bool (lkM M o.src != o.port.type))) := by
  refine APureOn.of func81 rfl fun τ => ?_
  simp only [ntmps81, List.length_cons, List.length_nil, Nat.reduceAdd, Nat.reduceSub, List.replicate_succ, List.replicate_zero, List.cons_append, List.nil_append]
  rw [← sm_app hT.m M τ]
  have hT := hT.app τ
  have h1' := getL h1 τ
  have h2' := getL h2 τ
  generalize σ ++ τ = σ at hT h1' h2' ⊢
  have g1 := fun (M : MapM) (l : Sto) => sm_ne (M := M) hT.t hT.n1 l
  have g2 := fun (M : MapM) (l : Sto) => sm_ne (M := M) hT.ty hT.n2 l
  have g3 := fun (M : MapM) (l : Sto) => sm_at hT.m M l
  have hat := at_osl (o := oty) (k := .i64) hT.lt
  have hdr := dr_at hT.at_
  have hot := hT.ot_lt
  have k1 := fun (M : MapM) (l : Sto) => sm_ne (M := M) h1' n1 l
  have k2 := fun (M : MapM) (l : Sto) => sm_ne (M := M) h2' n2 l
  have hlk := fun l => lk88f (g3 M l) o.src.block o.src.port
  rw [show (look M (o.src.block, o.src.port)).getD 0 = lkM M o.src from rfl] at hlk
  refine AW.regl false [3, 4] (by rfl) fun K1 hK1 => ?_ -- region 0
  simp only [go_sem, Nat.reduceAdd, Nat.reduceEqDiff, Nat.reduceLeDiff, true_and, List.length_map, len_row, one_row, List.drop_zero, blk_len, dgm_len, port_len, out_len, src_len, file_len, src_get, port_get, out_get, blk_get, dgm_get, file_get, dgm_all, blk_all, src_all, port_all, out_all, file_all, sm_len, sm_geta, sm_geta0, sm_seta, sm_seta0, g1, g2, hat, hdr, k1, k2]
  refine hK1 _ _ ?_; try clear hK1 K1
  conv => enter [5]; simp only [setL_cons, setL_nil, List.set_cons_zero, List.set_cons_succ]
  refine AW.regdl mixed false [4] (by kernel_rfl) (by rfl) fun K2 hK2 => ?_ -- region 1
  simp only [go_sem, Nat.reduceAdd, Nat.reduceEqDiff, Nat.reduceLeDiff, true_and, List.length_map, len_row, one_row, List.drop_zero, blk_len, dgm_len, port_len, out_len, src_len, file_len, src_get, port_get, out_get, blk_get, dgm_get, file_get, dgm_all, blk_all, src_all, port_all, out_all, file_all, sm_len, sm_geta, sm_geta0, sm_seta, sm_seta0, g1, g2, hat, hdr, k1, k2, OutM.enc, hlk]
  refine hK2 _ ?_; try clear hK2 K2
  conv => enter [5]; simp only [setL_cons, setL_nil, List.set_cons_zero, List.set_cons_succ]
  refine AW.ret ⟨.inr rfl, _, rfl, by simp, ?_⟩ -- return 1
  exact .keep rfl
theorem outT_at {σ : Sto} {ot oty om i n : Nat} {fc nm : AV} {rest tys : List AV} (hT : TyAt σ ot oty om i n fc nm rest tys) (M : MapM) (o : OutM) {o1 o2 : Nat} (τ : Sto) (h1 : (σ ++ τ)[o1]? = some (.cells [.ref ot 0])) (h2 : (σ ++ τ)[o2]? = some (.cells [i64 ((i : Nat) : Int)])) (n1 : om ≠ o1) (n2 : om ≠ o2) : APureOn prog Γ 81 [o.enc, .ref o1 0, .ref o2 0] (sm σ om M ++ τ) (.val (.bool (lkM M o.src != o.port.type))) := by
  have := outT_fn (Γ := Γ) (hT.app τ) M o h1 h2 n1 n2
  rwa [sm_app hT.m] at this
end Fl
end Go.Proofs.Tryd
/-! Flow: function 53. -/
namespace Go.Proofs.Tryd
set_option linter.unusedSimpArgs false
set_option linter.unusedVariables false
open Go Go.Proofs.Ev
namespace Fl
variable {Γ : List (Nat × List AV)} {w : AV} {G : List (Nat × List AV)}
set_option maxRecDepth 100000 in
set_option maxHeartbeats 2000000 in
theorem typed_calls {σ : Sto} {ot oty oo om i n : Nat} {nm : AV} {rest tys ords : List AV} (f : FileM) (hT : TyAt σ ot oty om i n (rowAV 4 f.nl (f.ds.map Dgm.enc)) nm (.osl oo 0 n 1 :: rest) tys) (hoo : σ[oo]? = some (.cells ords)) (n3 : om ≠ oo) (d : Dgm) (o : List Nat) (hord : ords[i]? = some (rowN o)) (hol : o.length ≤ 2000) (hok : ∀ k ∈ o, k < d.blocks.length) (hI : d.ins.length ≤ 2000) (hO : d.outs.length ≤ 2000) (hB : d.blocks.length ≤ 2000) (hS : ∀ b ∈ d.blocks, b.src.length ≤ 2000) (hw : ∀ b ∈ d.blocks, WfB f b) (har : ∀ b ∈ d.blocks, b.kind = 7 → (insT f b).length = b.src.length) (hfo : ∀ e ∈ f.ds, e.outs.length ≤ 2000) : ACalls prog (GK w G) 53 [.ref ot 0, i64 ((i : Nat) : Int), d.enc] (sm σ om []) (fun v σ' => ∃ M, σ' = sm σ om M ∧ v = .val (.bool (typedB f d o)) ∧ (typedB f d o = true → walkM f d (startM d []) o = some M)) := by
  refine ACalls.ofT func53 rfl ?_
  simp only [ntmps53, List.length_cons, List.length_nil, Nat.reduceAdd, Nat.reduceSub, List.replicate_succ, List.replicate_zero, List.cons_append, List.nil_append]
  have g1 := fun (M : MapM) (l : Sto) => sm_ne (M := M) hT.t hT.n1 l
  have g2 := fun (M : MapM) (l : Sto) => sm_ne (M := M) hT.ty hT.n2 l
  have g3 := fun (M : MapM) (l : Sto) => sm_at hT.m M l
  have hat := at_osl (o := oty) (k := .i64) hT.lt
  have hdr := dr_at hT.at_
  have hot := hT.ot_lt
  have g4 := fun (M : MapM) (l : Sto) => sm_ne (M := M) hoo n3 l
  have hat2 := at_osl (o := oo) (k := .i64) hT.lt
  have hdr2 := dr_at hord
  have hlI : d.ins.length ≤ maxLen := by rw [maxLen_eq]; omega
  have hlO : d.outs.length ≤ maxLen := by rw [maxLen_eq]; omega
  have hlB : d.blocks.length ≤ maxLen := by rw [maxLen_eq]; omega
  have hlo : o.length ≤ maxLen := by rw [maxLen_eq]; omega
  refine AW.regl false [3, 4, 5, 6] (by rfl) fun K1 hK1 => ?_ -- region 0
  simp only [go_sem, Nat.reduceAdd, Nat.reduceEqDiff, Nat.reduceLeDiff, true_and, List.length_map, len_row, one_row, List.drop_zero, blk_len, dgm_len, port_len, out_len, src_len, file_len, src_get, port_get, out_get, blk_get, dgm_get, file_get, dgm_all, blk_all, src_all, port_all, out_all, file_all, sm_len, sm_geta, sm_geta0, sm_seta, sm_seta0, g1, g2, hat, hdr, g4, hat2, rowN_cells]
  refine hK1 _ _ ?_; try clear hK1 K1
  conv => enter [5]; simp only [setL_cons, setL_nil, List.set_cons_zero, List.set_cons_succ]
  refine AW.seq_k fun K2 hK2 => ?_
  refine AW.regl false [20, 21, 22] (by rfl) fun K3 hK3 => ?_ -- region 1
  simp only [go_sem, Nat.reduceAdd, Nat.reduceEqDiff, Nat.reduceLeDiff, true_and, List.length_map, len_row, one_row, List.drop_zero, blk_len, dgm_len, port_len, out_len, src_len, file_len, src_get, port_get, out_get, blk_get, dgm_get, file_get, dgm_all, blk_all, src_all, port_all, out_all, file_all, sm_len, sm_geta, sm_geta0, sm_seta, sm_seta0, g1, g2, hat, hdr, g4, hat2, rowN_cells, Dgm.enc]
  refine hK3 _ _ ?_; try clear hK3 K3
  conv => enter [5]; simp only [setL_cons, setL_nil, List.set_cons_zero, List.set_cons_succ]
  refine AW.block ?_
  refine AW.loop_dr (α := Nat) (fun j => [.any, .any, .any, (.ref σ.length 0), (.ref (σ.length + 1) 0), (.ref (σ.length + 2) 0), .any, .any, .any, .any, .any, .any, .any, .any, .any, .any, .any, .any, .any, .any, (rowAV 2 d.nlI (d.ins.map PortM.enc)), (.val (.int .i64 ((d.ins.length : Nat) : Int))), (.val (.int .i64 ((j : Nat) : Int))), .any, .any, .any, .any, .any, .any, .any, .any, .any, .any, .any, .any, .any, .any, .any, .any, .any, .any, .any, .any, .any, .any, .any, .any, .any, .any, .any, .any, .any, .any, .any, .any, .any, .any, .any, .any, .any, .any, .any, .any, .any, .any, .any, .any, .any, .any, .any, .any, .any, .any, .any, .any, .any, .any, .any, .any, .any, .any, .any, .any, .any, .any, .any, .any, .any, .any, .any, .any, .any, .any, .any, .any, .any, .any, .any, .any, .any, .any, .any, .any, .any, .any, .any, .any, .any, .any, .any, .any, .any, .any, .any, .any, .any, .any, .any, .any, .any, .any, .any, .any, .any, .any, .any, .any, .any, .any, .any, .any, .any, .any, .any, .any, .any, .any, .any, .any, .any, .any, .any, .any, .any, .any, .any, .any]) (fun j => sm σ om (putU (fun j : Nat => ((-1 : Int), ((j : Nat) : Int))) [] ((d.ins.map (fun p : PortM => p.type)).take j) 0) ++ [.cells [.ref ot 0], .cells [i64 ((i : Nat) : Int)], .cells d.enc.cells]) (fun j => d.ins.length - j) (fun j => j ≤ d.ins.length) 0 ?_ ?_ ?_
  · exact ⟨Nat.zero_le _, by simp [Wk], rfl⟩
  · refine fun y _ => ⟨?_, sm_bela σ om fun a ha => ?_⟩
    · simp only [belL, AV.bel, Bool.and_true, Bool.true_and, Bool.and_eq_true, decide_eq_true_eq, sm_len, List.length_append, List.length_cons, List.length_nil, row_bel src_bel, row_bel blk_bel, row_bel port_bel, row_bel out_bel, row_bel int_bel, row_bel nat_bel, row_bel str_bel, belL_map intA _ fun _ _ => int_bel _ _, and_true, true_and, Nat.reduceAdd]
      try omega
    · simp only [List.mem_cons, List.not_mem_nil, or_false] at ha
      rcases ha with rfl | rfl | rfl
      · simp [AO.bel, belL, AV.bel, sm_len]
        omega
      · rfl
      · exact dgm_cb d _
  · intro j hi
    refine AW.regl false [23] (by rfl) fun K4 hK4 => ?_ -- region 2
    simp only [go_sem, Nat.reduceAdd, Nat.reduceEqDiff, Nat.reduceLeDiff, true_and, List.length_map, len_row, one_row, List.drop_zero, blk_len, dgm_len, port_len, out_len, src_len, file_len, src_get, port_get, out_get, blk_get, dgm_get, file_get, dgm_all, blk_all, src_all, port_all, out_all, file_all, sm_len, sm_geta, sm_geta0, sm_seta, sm_seta0, g1, g2, hat, hdr, g4, hat2, rowN_cells]
    refine hK4 _ _ ?_; try clear hK4 K4
    conv => enter [5]; simp only [setL_cons, setL_nil, List.set_cons_zero, List.set_cons_succ]
    refine AW.seq_k fun K5 hK5 => ?_
    refine AW.cond rfl (fun hc23 => ?_) (fun hc23 => ?_)
    · skip
      have hj1 : j < d.ins.length := by simpa using hc23
      obtain ⟨p, hp⟩ : ∃ z, z = d.ins[j] := ⟨_, rfl⟩
      have hx : (d.ins.map PortM.enc)[j]? = some p.enc := by rw [hp]; simp [hj1]
      have hj2 : j < (d.ins.map (fun p : PortM => p.type)).length := by simpa using hj1
      have hoj : (d.ins.map (fun p : PortM => p.type))[j] = p.type := by simp [hp]
      have hup := fun M' l => up88 (g3 M' l) (-1) ((j : Nat) : Int) p.type
      simp only [sm_set hT.m] at hup
      refine AW.skip ?_
      refine hK5 _ _ ?_; try clear hK5 K5
      refine AW.seq_k fun K6 hK6 => ?_
      refine AW.block ?_
      refine AW.regl false [8, 7] (by rfl) fun K7 hK7 => ?_ -- region 3
      simp only [go_sem, Nat.reduceAdd, Nat.reduceEqDiff, Nat.reduceLeDiff, true_and, List.length_map, len_row, one_row, List.drop_zero, blk_len, dgm_len, port_len, out_len, src_len, file_len, src_get, port_get, out_get, blk_get, dgm_get, file_get, dgm_all, blk_all, src_all, port_all, out_all, file_all, sm_len, sm_geta, sm_geta0, sm_seta, sm_seta0, g1, g2, hat, hdr, g4, hat2, rowN_cells, at_row hx]
      refine hK7 _ _ ?_; try clear hK7 K7
      conv => enter [5]; simp only [setL_cons, setL_nil, List.set_cons_zero, List.set_cons_succ, upd_none, upd_at]
      refine AW.lastml mixed false [] 11 (by kernel_rfl) (by kernel_rfl) (by rfl) fun K hK => ?_ -- region 4
      simp only [go_sem, Nat.reduceAdd, Nat.reduceEqDiff, Nat.reduceLeDiff, true_and, List.length_map, len_row, one_row, List.drop_zero, blk_len, dgm_len, port_len, out_len, src_len, file_len, src_get, port_get, out_get, blk_get, dgm_get, file_get, dgm_all, blk_all, src_all, port_all, out_all, file_all, sm_len, sm_geta, sm_geta0, sm_seta, sm_seta0, g1, g2, hat, hdr, g4, hat2, rowN_cells, PortM.enc, hup]
      refine hK _ _ fun env' hw => ?_
      simp only [setL_cons, setL_nil, List.set_cons_zero, List.set_cons_succ, upd_none, upd_at] at hw
      refine hK6 _ _ (AW.weaken hw ?_); clear hw; try clear hK6 K6
      refine AW.lastl false [22] (by rfl) fun K hK => ?_ -- region 5
      simp only [go_sem, Nat.reduceAdd, Nat.reduceEqDiff, Nat.reduceLeDiff, true_and, List.length_map, len_row, one_row, List.drop_zero, blk_len, dgm_len, port_len, out_len, src_len, file_len, src_get, port_get, out_get, blk_get, dgm_get, file_get, dgm_all, blk_all, src_all, port_all, out_all, file_all, sm_len, sm_geta, sm_geta0, sm_seta, sm_seta0, g1, g2, hat, hdr, g4, hat2, rowN_cells]
      refine hK _ _ fun env' hw => ?_
      simp only [setL_cons, setL_nil, List.set_cons_zero, List.set_cons_succ] at hw
      refine ⟨j + 1, by omega, by omega, ?_, ?_⟩
      · refine hw.trans ?_
        simp [Wk, wrap_succ hj1 hlI]
      · rw [putU_take hj2, hoj]
        simp [List.take_append, List.take_of_length_le, sm_len, dgm_cells]
    · skip
      have hj1 : j = d.ins.length := by
        have : ¬ j < d.ins.length := by simpa using hc23
        omega
      refine AW.exit ?_
      refine hK2 _ _ ?_; try clear hK2 K2
      refine AW.seq_k fun K8 hK8 => ?_
      refine AW.regl false [40, 41, 42] (by rfl) fun K9 hK9 => ?_ -- region 6
      simp only [go_sem, Nat.reduceAdd, Nat.reduceEqDiff, Nat.reduceLeDiff, true_and, List.length_map, len_row, one_row, List.drop_zero, blk_len, dgm_len, port_len, out_len, src_len, file_len, src_get, port_get, out_get, blk_get, dgm_get, file_get, dgm_all, blk_all, src_all, port_all, out_all, file_all, sm_len, sm_geta, sm_geta0, sm_seta, sm_seta0, g1, g2, hat, hdr, g4, hat2, rowN_cells, Dgm.enc]
      refine hK9 _ _ ?_; try clear hK9 K9
      conv => enter [5]; simp only [setL_cons, setL_nil, List.set_cons_zero, List.set_cons_succ]
      refine AW.block ?_
      refine AW.loop_dr (α := Nat) (fun j => [.any, .any, .any, (.ref σ.length 0), (.ref (σ.length + 1) 0), (.ref (σ.length + 2) 0), .any, .any, .any, .any, .any, .any, .any, .any, .any, .any, .any, .any, .any, .any, .any, .any, .any, .any, .any, .any, .any, .any, .any, .any, .any, .any, .any, .any, .any, .any, .any, .any, .any, .any, (rowAV 7 d.nlB (d.blocks.map Blk.enc)), (.val (.int .i64 ((d.blocks.length : Nat) : Int))), (.val (.int .i64 ((j : Nat) : Int))), .any, .any, .any, .any, .any, .any, .any, .any, .any, .any, .any, .any, .any, .any, .any, .any, .any, .any, .any, .any, .any, .any, .any, .any, .any, .any, .any, .any, .any, .any, .any, .any, .any, .any, .any, .any, .any, .any, .any, .any, .any, .any, .any, .any, .any, .any, .any, .any, .any, .any, .any, .any, .any, .any, .any, .any, .any, .any, .any, .any, .any, .any, .any, .any, .any, .any, .any, .any, .any, .any, .any, .any, .any, .any, .any, .any, .any, .any, .any, .any, .any, .any, .any, .any, .any, .any, .any, .any, .any, .any, .any, .any, .any, .any, .any, .any, .any, .any, .any, .any, .any, .any, .any, .any]) (fun j => sm σ om (delU (putU (fun j : Nat => ((-1 : Int), ((j : Nat) : Int))) [] (d.ins.map (fun p : PortM => p.type)) 0) (d.blocks.take j) 0) ++ [.cells [.ref ot 0], .cells [i64 ((i : Nat) : Int)], .cells d.enc.cells]) (fun j => d.blocks.length - j) (fun j => j ≤ d.blocks.length) 0 ?_ ?_ ?_
      · refine ⟨Nat.zero_le _, by simp [Wk], ?_⟩
        rw [hj1, List.take_of_length_le (show (d.ins.map (fun p : PortM => p.type)).length ≤ d.ins.length by simp)]
        rfl
      · refine fun y _ => ⟨?_, sm_bela σ om fun a ha => ?_⟩
        · simp only [belL, AV.bel, Bool.and_true, Bool.true_and, Bool.and_eq_true, decide_eq_true_eq, sm_len, List.length_append, List.length_cons, List.length_nil, row_bel src_bel, row_bel blk_bel, row_bel port_bel, row_bel out_bel, row_bel int_bel, row_bel nat_bel, row_bel str_bel, belL_map intA _ fun _ _ => int_bel _ _, and_true, true_and, Nat.reduceAdd]
          try omega
        · simp only [List.mem_cons, List.not_mem_nil, or_false] at ha
          rcases ha with rfl | rfl | rfl
          · simp [AO.bel, belL, AV.bel, sm_len]
            omega
          · rfl
          · exact dgm_cb d _
      · intro j hi
        refine AW.regl false [43] (by rfl) fun K10 hK10 => ?_ -- region 7
        simp only [go_sem, Nat.reduceAdd, Nat.reduceEqDiff, Nat.reduceLeDiff, true_and, List.length_map, len_row, one_row, List.drop_zero, blk_len, dgm_len, port_len, out_len, src_len, file_len, src_get, port_get, out_get, blk_get, dgm_get, file_get, dgm_all, blk_all, src_all, port_all, out_all, file_all, sm_len, sm_geta, sm_geta0, sm_seta, sm_seta0, g1, g2, hat, hdr, g4, hat2, rowN_cells]
        refine hK10 _ _ ?_; try clear hK10 K10
        conv => enter [5]; simp only [setL_cons, setL_nil, List.set_cons_zero, List.set_cons_succ]
        refine AW.seq_k fun K11 hK11 => ?_
        refine AW.cond rfl (fun hc43 => ?_) (fun hc43 => ?_)
        · skip
          have hj1 : j < d.blocks.length := by simpa using hc43
          obtain ⟨b, hb⟩ : ∃ z, z = d.blocks[j] := ⟨_, rfl⟩
          have hx : (d.blocks.map Blk.enc)[j]? = some b.enc := by rw [hb]; simp [hj1]
          have hde := delU_take (M := (putU (fun j : Nat => ((-1 : Int), ((j : Nat) : Int))) [] (d.ins.map (fun p : PortM => p.type)) 0)) hj1
          rw [← hb] at hde
          have hup := fun M' l => up88 (g3 M' l) ((j : Nat) : Int) 0 b.op
          simp only [sm_set hT.m] at hup
          refine AW.skip ?_
          refine hK11 _ _ ?_; try clear hK11 K11
          refine AW.seq_k fun K12 hK12 => ?_
          refine AW.block ?_
          refine AW.regl false [10, 9] (by rfl) fun K13 hK13 => ?_ -- region 8
          simp only [go_sem, Nat.reduceAdd, Nat.reduceEqDiff, Nat.reduceLeDiff, true_and, List.length_map, len_row, one_row, List.drop_zero, blk_len, dgm_len, port_len, out_len, src_len, file_len, src_get, port_get, out_get, blk_get, dgm_get, file_get, dgm_all, blk_all, src_all, port_all, out_all, file_all, sm_len, sm_geta, sm_geta0, sm_seta, sm_seta0, g1, g2, hat, hdr, g4, hat2, rowN_cells, at_row hx]
          refine hK13 _ _ ?_; try clear hK13 K13
          conv => enter [5]; simp only [setL_cons, setL_nil, List.set_cons_zero, List.set_cons_succ, upd_none, upd_at]
          refine AW.regl false [49] (by rfl) fun K14 hK14 => ?_ -- region 9
          simp only [go_sem, Nat.reduceAdd, Nat.reduceEqDiff, Nat.reduceLeDiff, true_and, List.length_map, len_row, one_row, List.drop_zero, blk_len, dgm_len, port_len, out_len, src_len, file_len, src_get, port_get, out_get, blk_get, dgm_get, file_get, dgm_all, blk_all, src_all, port_all, out_all, file_all, sm_len, sm_geta, sm_geta0, sm_seta, sm_seta0, g1, g2, hat, hdr, g4, hat2, rowN_cells, Blk.enc]
          refine hK14 _ _ ?_; try clear hK14 K14
          conv => enter [5]; simp only [setL_cons, setL_nil, List.set_cons_zero, List.set_cons_succ]
          refine AW.cond rfl (fun hc49 => ?_) (fun hc49 => ?_)
          · skip
            rw [if_pos hc49] at hde
            refine AW.lastml mixed false [] 11 (by kernel_rfl) (by kernel_rfl) (by rfl) fun K hK => ?_ -- region 10
            simp only [go_sem, Nat.reduceAdd, Nat.reduceEqDiff, Nat.reduceLeDiff, true_and, List.length_map, len_row, one_row, List.drop_zero, blk_len, dgm_len, port_len, out_len, src_len, file_len, src_get, port_get, out_get, blk_get, dgm_get, file_get, dgm_all, blk_all, src_all, port_all, out_all, file_all, sm_len, sm_geta, sm_geta0, sm_seta, sm_seta0, g1, g2, hat, hdr, g4, hat2, rowN_cells, Blk.enc, hup]
            refine hK _ _ fun env' hw => ?_
            simp only [setL_cons, setL_nil, List.set_cons_zero, List.set_cons_succ, upd_none, upd_at] at hw
            refine hK12 _ _ (AW.weaken hw ?_); clear hw; try clear hK12 K12
            refine AW.lastl false [42] (by rfl) fun K hK => ?_ -- region 11
            simp only [go_sem, Nat.reduceAdd, Nat.reduceEqDiff, Nat.reduceLeDiff, true_and, List.length_map, len_row, one_row, List.drop_zero, blk_len, dgm_len, port_len, out_len, src_len, file_len, src_get, port_get, out_get, blk_get, dgm_get, file_get, dgm_all, blk_all, src_all, port_all, out_all, file_all, sm_len, sm_geta, sm_geta0, sm_seta, sm_seta0, g1, g2, hat, hdr, g4, hat2, rowN_cells]
            refine hK _ _ fun env' hw => ?_
            simp only [setL_cons, setL_nil, List.set_cons_zero, List.set_cons_succ] at hw
            refine ⟨j + 1, by omega, by omega, ?_, ?_⟩
            · refine hw.trans ?_
              simp [Wk, wrap_succ hj1 hlB]
            · rw [hde]
              simp [List.take_append, List.take_of_length_le, sm_len, dgm_cells]
          · skip
            rw [if_neg (ne_true_of_eq_false hc49)] at hde
            refine AW.skip ?_
            refine hK12 _ _ ?_; try clear hK12 K12
            refine AW.lastl false [42] (by rfl) fun K hK => ?_ -- region 11
            simp only [go_sem, Nat.reduceAdd, Nat.reduceEqDiff, Nat.reduceLeDiff, true_and, List.length_map, len_row, one_row, List.drop_zero, blk_len, dgm_len, port_len, out_len, src_len, file_len, src_get, port_get, out_get, blk_get, dgm_get, file_get, dgm_all, blk_all, src_all, port_all, out_all, file_all, sm_len, sm_geta, sm_geta0, sm_seta, sm_seta0, g1, g2, hat, hdr, g4, hat2, rowN_cells]
            refine hK _ _ fun env' hw => ?_
            simp only [setL_cons, setL_nil, List.set_cons_zero, List.set_cons_succ] at hw
            refine ⟨j + 1, by omega, by omega, ?_, ?_⟩
            · refine hw.trans ?_
              simp [Wk, wrap_succ hj1 hlB]
            · rw [hde]
              simp [List.take_append, List.take_of_length_le, sm_len, dgm_cells]
        · skip
          have hj1 : j = d.blocks.length := by
            have : ¬ j < d.blocks.length := by simpa using hc43
            omega
          have hjB : delU (putU (fun j : Nat => ((-1 : Int), ((j : Nat) : Int))) [] (d.ins.map (fun p : PortM => p.type)) 0) (d.blocks.take j) 0 = delU (putU (fun j : Nat => ((-1 : Int), ((j : Nat) : Int))) [] (d.ins.map (fun p : PortM => p.type)) 0) d.blocks 0 := by rw [hj1, List.take_length]
          refine AW.exit ?_
          refine hK8 _ _ ?_; try clear hK8 K8
          refine AW.seq_k fun K15 hK15 => ?_
          refine AW.regdl mixed false [68, 69, 70] (by kernel_rfl) (by rfl) fun K16 hK16 => ?_ -- region 12
          simp only [go_sem, Nat.reduceAdd, Nat.reduceEqDiff, Nat.reduceLeDiff, true_and, List.length_map, len_row, one_row, List.drop_zero, blk_len, dgm_len, port_len, out_len, src_len, file_len, src_get, port_get, out_get, blk_get, dgm_get, file_get, dgm_all, blk_all, src_all, port_all, out_all, file_all, sm_len, sm_geta, sm_geta0, sm_seta, sm_seta0, g1, g2, hat, hdr, g4, hat2, rowN_cells, hdr2, len_rowN]
          refine hK16 _ ?_; try clear hK16 K16
          conv => enter [5]; simp only [setL_cons, setL_nil, List.set_cons_zero, List.set_cons_succ]
          refine AW.block ?_
          refine AW.loop_dr (α := Nat × MapM) (fun z => [.any, .any, .any, (.ref σ.length 0), (.ref (σ.length + 1) 0), (.ref (σ.length + 2) 0), .any, .any, .any, .any, .any, .any, .any, .any, .any, .any, .any, .any, .any, .any, .any, .any, .any, .any, .any, .any, .any, .any, .any, .any, .any, .any, .any, .any, .any, .any, .any, .any, .any, .any, .any, .any, .any, .any, .any, .any, .any, .any, .any, .any, .any, .any, .any, .any, .any, .any, .any, .any, .any, .any, .any, .any, .any, .any, .any, .any, .any, .any, (rowAV 1 true (o.map natA)), (.val (.int .i64 ((o.length : Nat) : Int))), (i64 ((z.1 : Nat) : Int)), .any, .any, .any, .any, .any, .any, .any, .any, .any, .any, .any, .any, .any, .any, .any, .any, .any, .any, .any, .any, .any, .any, .any, .any, .any, .any, .any, .any, .any, .any, .any, .any, .any, .any, .any, .any, .any, .any, .any, .any, .any, .any, .any, .any, .any, .any, .any, .any, .any, .any, .any, .any, .any, .any, .any, .any, .any, .any, .any, .any, .any, .any, .any, .any, .any, .any, .any, .any, .any, .any, .any, .any, .any, .any, .any, .any]) (fun z => sm σ om z.2 ++ [.cells [.ref ot 0], .cells [i64 ((i : Nat) : Int)], .cells d.enc.cells]) (fun z => o.length - z.1) (fun z => z.1 ≤ o.length ∧ walkM f d (startM d []) (o.take z.1) = some z.2) (0, startM d []) ?_ ?_ ?_
          · refine ⟨⟨Nat.zero_le _, rfl⟩, by simp [Wk, rowN], ?_⟩
            rw [startM, ← hjB]
          · refine fun y _ => ⟨?_, sm_bela σ om fun a ha => ?_⟩
            · simp only [belL, AV.bel, Bool.and_true, Bool.true_and, Bool.and_eq_true, decide_eq_true_eq, sm_len, List.length_append, List.length_cons, List.length_nil, row_bel src_bel, row_bel blk_bel, row_bel port_bel, row_bel out_bel, row_bel int_bel, row_bel nat_bel, row_bel str_bel, belL_map intA _ fun _ _ => int_bel _ _, and_true, true_and, Nat.reduceAdd]
              try omega
            · simp only [List.mem_cons, List.not_mem_nil, or_false] at ha
              rcases ha with rfl | rfl | rfl
              · simp [AO.bel, belL, AV.bel, sm_len]
                omega
              · rfl
              · exact dgm_cb d _
          · rintro ⟨x, M⟩ ⟨hx, hwk⟩
            simp only at hx hwk
            refine AW.regl false [71] (by rfl) fun K17 hK17 => ?_ -- region 13
            simp only [go_sem, Nat.reduceAdd, Nat.reduceEqDiff, Nat.reduceLeDiff, true_and, List.length_map, len_row, one_row, List.drop_zero, blk_len, dgm_len, port_len, out_len, src_len, file_len, src_get, port_get, out_get, blk_get, dgm_get, file_get, dgm_all, blk_all, src_all, port_all, out_all, file_all, sm_len, sm_geta, sm_geta0, sm_seta, sm_seta0, g1, g2, hat, hdr, g4, hat2, rowN_cells]
            refine hK17 _ _ ?_; try clear hK17 K17
            conv => enter [5]; simp only [setL_cons, setL_nil, List.set_cons_zero, List.set_cons_succ]
            refine AW.seq_k fun K18 hK18 => ?_
            refine AW.cond rfl (fun hc71 => ?_) (fun hc71 => ?_)
            · skip
              have hx1 : x < o.length := by simpa using hc71
              obtain ⟨k, hk⟩ : ∃ z, z = o[x] := ⟨_, rfl⟩
              have hy : (o.map natA)[x]? = some (natA k) := by rw [hk]; simp [hx1]
              have hkl : k < d.blocks.length := hok k (by rw [hk]; exact List.getElem_mem hx1)
              obtain ⟨b, hb⟩ : ∃ z, d.blocks[k]? = some z := ⟨_, List.getElem?_eq_getElem hkl⟩
              have hz : (d.blocks.map Blk.enc)[k]? = some b.enc := by simp [hb]
              have hbm := List.mem_of_getElem? hb
              have hwb := hw b hbm
              have hsl := hS b hbm
              have hwn := walk_next hx1 hk.symm hb hwk
              refine AW.skip ?_
              refine hK18 _ _ ?_; try clear hK18 K18
              refine AW.seq_k fun K19 hK19 => ?_
              refine AW.block ?_
              refine AW.regl false [12] (by rfl) fun K20 hK20 => ?_ -- region 14
              simp only [go_sem, Nat.reduceAdd, Nat.reduceEqDiff, Nat.reduceLeDiff, true_and, List.length_map, len_row, one_row, List.drop_zero, blk_len, dgm_len, port_len, out_len, src_len, file_len, src_get, port_get, out_get, blk_get, dgm_get, file_get, dgm_all, blk_all, src_all, port_all, out_all, file_all, sm_len, sm_geta, sm_geta0, sm_seta, sm_seta0, g1, g2, hat, hdr, g4, hat2, rowN_cells, at_row hy, natA]
              refine hK20 _ _ ?_; try clear hK20 K20
              conv => enter [5]; simp only [setL_cons, setL_nil, List.set_cons_zero, List.set_cons_succ]
              refine AW.regl false [13] (by rfl) fun K21 hK21 => ?_ -- region 15
              simp only [go_sem, Nat.reduceAdd, Nat.reduceEqDiff, Nat.reduceLeDiff, true_and, List.length_map, len_row, one_row, List.drop_zero, blk_len, dgm_len, port_len, out_len, src_len, file_len, src_get, port_get, out_get, blk_get, dgm_get, file_get, dgm_all, blk_all, src_all, port_all, out_all, file_all, sm_len, sm_geta, sm_geta0, sm_seta, sm_seta0, g1, g2, hat, hdr, g4, hat2, rowN_cells, Dgm.enc, at_row hz]
              refine hK21 _ _ ?_; try clear hK21 K21
              conv => enter [5]; simp only [setL_cons, setL_nil, List.set_cons_zero, List.set_cons_succ, upd_none, upd_at]
              refine AW.seq_k fun K22 hK22 => ?_
              refine AW.regl false [81] (by rfl) fun K23 hK23 => ?_ -- region 16
              simp only [go_sem, Nat.reduceAdd, Nat.reduceEqDiff, Nat.reduceLeDiff, true_and, List.length_map, len_row, one_row, List.drop_zero, blk_len, dgm_len, port_len, out_len, src_len, file_len, src_get, port_get, out_get, blk_get, dgm_get, file_get, dgm_all, blk_all, src_all, port_all, out_all, file_all, sm_len, sm_geta, sm_geta0, sm_seta, sm_seta0, g1, g2, hat, hdr, g4, hat2, rowN_cells, Blk.enc]
              refine hK23 _ _ ?_; try clear hK23 K23
              conv => enter [5]; simp only [setL_cons, setL_nil, List.set_cons_zero, List.set_cons_succ]
              refine AW.cond rfl (fun hc81 => ?_) (fun hc81 => ?_)
              · skip
                have h7 : b.kind = 7 := by simpa using hc81
                obtain ⟨u, hu⟩ := Int.eq_ofNat_of_zero_le (hwb.sub h7).1
                have hul : u < f.ds.length := by have := (hwb.sub h7).2; omega
                obtain ⟨e, he⟩ : ∃ z, f.ds[u]? = some z := ⟨_, List.getElem?_eq_getElem hul⟩
                have hil : e.ins.length = b.src.length := by rw [← insT_len hu he]; exact har b hbm h7
                have hst0 : stepM f M k b = if (subR f M k b).1 = true then some (subR f M k b).2 else none := by rw [stepM, if_pos hc81]
                refine AW.seq_k fun K24 hK24 => ?_
                refine AW.regl false [87] (by rfl) fun K25 hK25 => ?_ -- region 17
                simp only [go_sem, Nat.reduceAdd, Nat.reduceEqDiff, Nat.reduceLeDiff, true_and, List.length_map, len_row, one_row, List.drop_zero, blk_len, dgm_len, port_len, out_len, src_len, file_len, src_get, port_get, out_get, blk_get, dgm_get, file_get, dgm_all, blk_all, src_all, port_all, out_all, file_all, sm_len, sm_geta, sm_geta0, sm_seta, sm_seta0, g1, g2, hat, hdr, g4, hat2, rowN_cells]
                refine sC.ofR en78 (sub_at hT f rfl M k b hsl u e hu he hil (hfo e (List.mem_of_getElem? he)) _) (fun v' σ' hR => ?_)
                obtain ⟨rfl, rfl⟩ := hR
                simp only [go_sem, Nat.reduceAdd, Nat.reduceEqDiff, Nat.reduceLeDiff, true_and, List.length_map, len_row, one_row, List.drop_zero, blk_len, dgm_len, port_len, out_len, src_len, file_len, src_get, port_get, out_get, blk_get, dgm_get, file_get, dgm_all, blk_all, src_all, port_all, out_all, file_all, sm_len, sm_geta, sm_geta0, sm_seta, sm_seta0, g1, g2, hat, hdr, g4, hat2, rowN_cells]
                refine hK25 _ _ ?_; try clear hK25 K25
                conv => enter [5]; simp only [setL_cons, setL_nil, List.set_cons_zero, List.set_cons_succ]
                refine AW.cond rfl (fun hc87 => ?_) (fun hc87 => ?_)
                · skip
                  have hsb : (subR f M k b).1 = false := by simpa using hc87
                  rw [if_neg (by rw [hsb]; simp)] at hst0
                  have hTB : typedB f d o = false := by unfold typedB; rw [walk_none (hwn.trans hst0)]
                  refine AW.regl false [6] (by rfl) fun K26 hK26 => ?_ -- region 18
                  simp only [go_sem, Nat.reduceAdd, Nat.reduceEqDiff, Nat.reduceLeDiff, true_and, List.length_map, len_row, one_row, List.drop_zero, blk_len, dgm_len, port_len, out_len, src_len, file_len, src_get, port_get, out_get, blk_get, dgm_get, file_get, dgm_all, blk_all, src_all, port_all, out_all, file_all, sm_len, sm_geta, sm_geta0, sm_seta, sm_seta0, g1, g2, hat, hdr, g4, hat2, rowN_cells]
                  refine hK26 _ _ ?_; try clear hK26 K26
                  conv => enter [5]; simp only [setL_cons, setL_nil, List.set_cons_zero, List.set_cons_succ]
                  exact AW.ret ⟨.inr rfl, _, rfl, sm σ om (subR f M k b).2, _, rfl, by rw [sm_len, sm_len], fun i a h => sm_keep i a h, rfl, _, rfl, by rw [hTB], fun h => by rw [hTB] at h; cases h⟩
                · skip
                  have hsb : (subR f M k b).1 = true := by simpa using hc87
                  obtain ⟨M2, hM2⟩ : ∃ z, z = (subR f M k b).2 := ⟨_, rfl⟩
                  have hst : stepM f M k b = some M2 := by rw [hst0, if_pos hsb, hM2]
                  refine AW.skip ?_
                  refine hK24 _ _ ?_; try clear hK24 K24
                  refine AW.exit ?_
                  refine hK19 _ _ ?_; try clear hK19 K19
                  refine AW.lastl false [70] (by rfl) fun K hK => ?_ -- region 26
                  simp only [go_sem, Nat.reduceAdd, Nat.reduceEqDiff, Nat.reduceLeDiff, true_and, List.length_map, len_row, one_row, List.drop_zero, blk_len, dgm_len, port_len, out_len, src_len, file_len, src_get, port_get, out_get, blk_get, dgm_get, file_get, dgm_all, blk_all, src_all, port_all, out_all, file_all, sm_len, sm_geta, sm_geta0, sm_seta, sm_seta0, g1, g2, hat, hdr, g4, hat2, rowN_cells]
                  refine hK _ _ fun env' hw => ?_
                  simp only [setL_cons, setL_nil, List.set_cons_zero, List.set_cons_succ] at hw
                  refine ⟨(x + 1, M2), by simp only; omega, ⟨by simp only; omega, hwn.trans hst⟩, ?_, ?_⟩
                  · refine hw.trans ?_
                    simp [Wk, wrap_succ hx1 hlo]
                  · simp [List.take_append, List.take_of_length_le, sm_len, dgm_cells, hM2]
              · skip
                have hst0 : stepM f M k b = if (resM b (fromT M b)).2 = true then some (Fl.upd M ((k : Int), 0) (resM b (fromT M b)).1) else none := by rw [stepM, if_neg (ne_true_of_eq_false hc81)]
                have hnot7 : ¬ b.kind = 7 := by simpa using hc81
                have hfl : ¬ b.kind = 4 → (fromT M b).length = b.src.length := fun h4 => by simp [fromT, h4]
                have hrc := result_calls (w := w) (G := G) b (fromT M b) (fun h => by rw [hfl (by omega), hwb.one (.inl h)]; omega) (fun h => by rw [hfl (by omega)]; have := hwb.bin h; omega) (fun h => by rw [hfl (by omega), hwb.two h]; omega) (fun h => by rw [hfl (by omega), hwb.three h]; omega)
                have hup := fun M' l => up88 (g3 M' l) ((k : Nat) : Int) 0 (resM b (fromT M b)).1
                simp only [sm_set hT.m] at hup
                refine AW.skip ?_
                refine hK22 _ _ ?_; try clear hK22 K22
                refine AW.regl false [14] (by rfl) fun K27 hK27 => ?_ -- region 19
                simp only [go_sem, Nat.reduceAdd, Nat.reduceEqDiff, Nat.reduceLeDiff, true_and, List.length_map, len_row, one_row, List.drop_zero, blk_len, dgm_len, port_len, out_len, src_len, file_len, src_get, port_get, out_get, blk_get, dgm_get, file_get, dgm_all, blk_all, src_all, port_all, out_all, file_all, sm_len, sm_geta, sm_geta0, sm_seta, sm_seta0, g1, g2, hat, hdr, g4, hat2, rowN_cells]
                refine hK27 _ _ ?_; try clear hK27 K27
                conv => enter [5]; simp only [setL_cons, setL_nil, List.set_cons_zero, List.set_cons_succ]
                refine AW.seq_k fun K28 hK28 => ?_
                refine AW.regl false [90] (by rfl) fun K29 hK29 => ?_ -- region 20
                simp only [go_sem, Nat.reduceAdd, Nat.reduceEqDiff, Nat.reduceLeDiff, true_and, List.length_map, len_row, one_row, List.drop_zero, blk_len, dgm_len, port_len, out_len, src_len, file_len, src_get, port_get, out_get, blk_get, dgm_get, file_get, dgm_all, blk_all, src_all, port_all, out_all, file_all, sm_len, sm_geta, sm_geta0, sm_seta, sm_seta0, g1, g2, hat, hdr, g4, hat2, rowN_cells, Blk.enc]
                refine hK29 _ _ ?_; try clear hK29 K29
                conv => enter [5]; simp only [setL_cons, setL_nil, List.set_cons_zero, List.set_cons_succ]
                refine AW.cond rfl (fun hc90 => ?_) (fun hc90 => ?_)
                · skip
                  have h4 : ¬ b.kind = 4 := by simpa using hc90
                  have hft : fromT M b = b.src.map (lkM M) := by simp [fromT, h4]
                  refine AW.lastl false [14] (by rfl) fun K hK => ?_ -- region 21
                  simp only [go_sem, Nat.reduceAdd, Nat.reduceEqDiff, Nat.reduceLeDiff, true_and, List.length_map, len_row, one_row, List.drop_zero, blk_len, dgm_len, port_len, out_len, src_len, file_len, src_get, port_get, out_get, blk_get, dgm_get, file_get, dgm_all, blk_all, src_all, port_all, out_all, file_all, sm_len, sm_geta, sm_geta0, sm_seta, sm_seta0, g1, g2, hat, hdr, g4, hat2, rowN_cells]
                  refine sC.of en79 ((((from_calls hT M b hsl).more _))).here (by rfl) ?_
                  simp only [go_sem, Nat.reduceAdd, Nat.reduceEqDiff, Nat.reduceLeDiff, true_and, List.length_map, len_row, one_row, List.drop_zero, blk_len, dgm_len, port_len, out_len, src_len, file_len, src_get, port_get, out_get, blk_get, dgm_get, file_get, dgm_all, blk_all, src_all, port_all, out_all, file_all, sm_len, sm_geta, sm_geta0, sm_seta, sm_seta0, g1, g2, hat, hdr, g4, hat2, rowN_cells]
                  refine hK _ _ fun env' hw => ?_
                  simp only [setL_cons, setL_nil, List.set_cons_zero, List.set_cons_succ] at hw
                  refine hK28 _ _ (AW.weaken hw ?_); clear hw; try clear hK28 K28
                  rw [← hft]
                  refine AW.regl false [15, 16] (by rfl) fun K30 hK30 => ?_ -- region 22
                  simp only [go_sem, Nat.reduceAdd, Nat.reduceEqDiff, Nat.reduceLeDiff, true_and, List.length_map, len_row, one_row, List.drop_zero, blk_len, dgm_len, port_len, out_len, src_len, file_len, src_get, port_get, out_get, blk_get, dgm_get, file_get, dgm_all, blk_all, src_all, port_all, out_all, file_all, sm_len, sm_geta, sm_geta0, sm_seta, sm_seta0, g1, g2, hat, hdr, g4, hat2, rowN_cells]
                  refine sC.of en80 (hrc.on _).here (by rfl) ?_
                  simp only [go_sem, Nat.reduceAdd, Nat.reduceEqDiff, Nat.reduceLeDiff, true_and, List.length_map, len_row, one_row, List.drop_zero, blk_len, dgm_len, port_len, out_len, src_len, file_len, src_get, port_get, out_get, blk_get, dgm_get, file_get, dgm_all, blk_all, src_all, port_all, out_all, file_all, sm_len, sm_geta, sm_geta0, sm_seta, sm_seta0, g1, g2, hat, hdr, g4, hat2, rowN_cells]
                  refine hK30 _ _ ?_; try clear hK30 K30
                  conv => enter [5]; simp only [setL_cons, setL_nil, List.set_cons_zero, List.set_cons_succ]
                  refine AW.seq_k fun K31 hK31 => ?_
                  refine AW.regl false [102] (by rfl) fun K32 hK32 => ?_ -- region 23
                  simp only [go_sem, Nat.reduceAdd, Nat.reduceEqDiff, Nat.reduceLeDiff, true_and, List.length_map, len_row, one_row, List.drop_zero, blk_len, dgm_len, port_len, out_len, src_len, file_len, src_get, port_get, out_get, blk_get, dgm_get, file_get, dgm_all, blk_all, src_all, port_all, out_all, file_all, sm_len, sm_geta, sm_geta0, sm_seta, sm_seta0, g1, g2, hat, hdr, g4, hat2, rowN_cells]
                  refine hK32 _ _ ?_; try clear hK32 K32
                  conv => enter [5]; simp only [setL_cons, setL_nil, List.set_cons_zero, List.set_cons_succ]
                  refine AW.cond rfl (fun hc102 => ?_) (fun hc102 => ?_)
                  · skip
                    have hsb : (resM b (fromT M b)).2 = false := by simpa using hc102
                    rw [if_neg (by rw [hsb]; simp)] at hst0
                    have hTB : typedB f d o = false := by unfold typedB; rw [walk_none (hwn.trans hst0)]
                    refine AW.regl false [6] (by rfl) fun K33 hK33 => ?_ -- region 24
                    simp only [go_sem, Nat.reduceAdd, Nat.reduceEqDiff, Nat.reduceLeDiff, true_and, List.length_map, len_row, one_row, List.drop_zero, blk_len, dgm_len, port_len, out_len, src_len, file_len, src_get, port_get, out_get, blk_get, dgm_get, file_get, dgm_all, blk_all, src_all, port_all, out_all, file_all, sm_len, sm_geta, sm_geta0, sm_seta, sm_seta0, g1, g2, hat, hdr, g4, hat2, rowN_cells]
                    refine hK33 _ _ ?_; try clear hK33 K33
                    conv => enter [5]; simp only [setL_cons, setL_nil, List.set_cons_zero, List.set_cons_succ]
                    exact AW.ret ⟨.inr rfl, _, rfl, sm σ om M, _, rfl, by rw [sm_len, sm_len], fun i a h => sm_keep i a h, rfl, _, rfl, by rw [hTB], fun h => by rw [hTB] at h; cases h⟩
                  · skip
                    have hsb : (resM b (fromT M b)).2 = true := by simpa using hc102
                    obtain ⟨M2, hM2⟩ : ∃ z, z = Fl.upd M ((k : Int), 0) (resM b (fromT M b)).1 := ⟨_, rfl⟩
                    have hst : stepM f M k b = some M2 := by rw [hst0, if_pos hsb, hM2]
                    refine AW.skip ?_
                    refine hK31 _ _ ?_; try clear hK31 K31
                    refine AW.lastml mixed false [] 10 (by kernel_rfl) (by kernel_rfl) (by rfl) fun K hK => ?_ -- region 25
                    simp only [go_sem, Nat.reduceAdd, Nat.reduceEqDiff, Nat.reduceLeDiff, true_and, List.length_map, len_row, one_row, List.drop_zero, blk_len, dgm_len, port_len, out_len, src_len, file_len, src_get, port_get, out_get, blk_get, dgm_get, file_get, dgm_all, blk_all, src_all, port_all, out_all, file_all, sm_len, sm_geta, sm_geta0, sm_seta, sm_seta0, g1, g2, hat, hdr, g4, hat2, rowN_cells, hup]
                    refine hK _ _ fun env' hw => ?_
                    simp only [setL_cons, setL_nil, List.set_cons_zero, List.set_cons_succ, upd_none, upd_at] at hw
                    refine hK19 _ _ (AW.weaken hw ?_); clear hw; try clear hK19 K19
                    refine AW.lastl false [70] (by rfl) fun K hK => ?_ -- region 26
                    simp only [go_sem, Nat.reduceAdd, Nat.reduceEqDiff, Nat.reduceLeDiff, true_and, List.length_map, len_row, one_row, List.drop_zero, blk_len, dgm_len, port_len, out_len, src_len, file_len, src_get, port_get, out_get, blk_get, dgm_get, file_get, dgm_all, blk_all, src_all, port_all, out_all, file_all, sm_len, sm_geta, sm_geta0, sm_seta, sm_seta0, g1, g2, hat, hdr, g4, hat2, rowN_cells]
                    refine hK _ _ fun env' hw => ?_
                    simp only [setL_cons, setL_nil, List.set_cons_zero, List.set_cons_succ] at hw
                    refine ⟨(x + 1, M2), by simp only; omega, ⟨by simp only; omega, hwn.trans hst⟩, ?_, ?_⟩
                    · refine hw.trans ?_
                      simp [Wk, wrap_succ hx1 hlo]
                    · simp [List.take_append, List.take_of_length_le, sm_len, dgm_cells, hM2]
                · skip
                  have h4 : b.kind = 4 := by simpa using hc90
                  have hft : fromT M b = [] := by simp [fromT, h4]
                  refine AW.skip ?_
                  refine hK28 _ _ ?_; try clear hK28 K28
                  rw [show (AV.nilsl) = rowAV 1 true ((fromT M b).map intA) by rw [hft]; rfl]
                  refine AW.regl false [15, 16] (by rfl) fun K34 hK34 => ?_ -- region 22
                  simp only [go_sem, Nat.reduceAdd, Nat.reduceEqDiff, Nat.reduceLeDiff, true_and, List.length_map, len_row, one_row, List.drop_zero, blk_len, dgm_len, port_len, out_len, src_len, file_len, src_get, port_get, out_get, blk_get, dgm_get, file_get, dgm_all, blk_all, src_all, port_all, out_all, file_all, sm_len, sm_geta, sm_geta0, sm_seta, sm_seta0, g1, g2, hat, hdr, g4, hat2, rowN_cells]
                  refine sC.of en80 (hrc.on _).here (by rfl) ?_
                  simp only [go_sem, Nat.reduceAdd, Nat.reduceEqDiff, Nat.reduceLeDiff, true_and, List.length_map, len_row, one_row, List.drop_zero, blk_len, dgm_len, port_len, out_len, src_len, file_len, src_get, port_get, out_get, blk_get, dgm_get, file_get, dgm_all, blk_all, src_all, port_all, out_all, file_all, sm_len, sm_geta, sm_geta0, sm_seta, sm_seta0, g1, g2, hat, hdr, g4, hat2, rowN_cells]
                  refine hK34 _ _ ?_; try clear hK34 K34
                  conv => enter [5]; simp only [setL_cons, setL_nil, List.set_cons_zero, List.set_cons_succ]
                  refine AW.seq_k fun K35 hK35 => ?_
                  refine AW.regl false [102] (by rfl) fun K36 hK36 => ?_ -- region 23
                  simp only [go_sem, Nat.reduceAdd, Nat.reduceEqDiff, Nat.reduceLeDiff, true_and, List.length_map, len_row, one_row, List.drop_zero, blk_len, dgm_len, port_len, out_len, src_len, file_len, src_get, port_get, out_get, blk_get, dgm_get, file_get, dgm_all, blk_all, src_all, port_all, out_all, file_all, sm_len, sm_geta, sm_geta0, sm_seta, sm_seta0, g1, g2, hat, hdr, g4, hat2, rowN_cells]
                  refine hK36 _ _ ?_; try clear hK36 K36
                  conv => enter [5]; simp only [setL_cons, setL_nil, List.set_cons_zero, List.set_cons_succ]
                  refine AW.cond rfl (fun hc102 => ?_) (fun hc102 => ?_)
                  · skip
                    have hsb : (resM b (fromT M b)).2 = false := by simpa using hc102
                    rw [if_neg (by rw [hsb]; simp)] at hst0
                    have hTB : typedB f d o = false := by unfold typedB; rw [walk_none (hwn.trans hst0)]
                    refine AW.regl false [6] (by rfl) fun K37 hK37 => ?_ -- region 24
                    simp only [go_sem, Nat.reduceAdd, Nat.reduceEqDiff, Nat.reduceLeDiff, true_and, List.length_map, len_row, one_row, List.drop_zero, blk_len, dgm_len, port_len, out_len, src_len, file_len, src_get, port_get, out_get, blk_get, dgm_get, file_get, dgm_all, blk_all, src_all, port_all, out_all, file_all, sm_len, sm_geta, sm_geta0, sm_seta, sm_seta0, g1, g2, hat, hdr, g4, hat2, rowN_cells]
                    refine hK37 _ _ ?_; try clear hK37 K37
                    conv => enter [5]; simp only [setL_cons, setL_nil, List.set_cons_zero, List.set_cons_succ]
                    exact AW.ret ⟨.inr rfl, _, rfl, sm σ om M, _, rfl, by rw [sm_len, sm_len], fun i a h => sm_keep i a h, rfl, _, rfl, by rw [hTB], fun h => by rw [hTB] at h; cases h⟩
                  · skip
                    have hsb : (resM b (fromT M b)).2 = true := by simpa using hc102
                    obtain ⟨M2, hM2⟩ : ∃ z, z = Fl.upd M ((k : Int), 0) (resM b (fromT M b)).1 := ⟨_, rfl⟩
                    have hst : stepM f M k b = some M2 := by rw [hst0, if_pos hsb, hM2]
                    refine AW.skip ?_
                    refine hK35 _ _ ?_; try clear hK35 K35
                    refine AW.lastml mixed false [] 10 (by kernel_rfl) (by kernel_rfl) (by rfl) fun K hK => ?_ -- region 25
                    simp only [go_sem, Nat.reduceAdd, Nat.reduceEqDiff, Nat.reduceLeDiff, true_and, List.length_map, len_row, one_row, List.drop_zero, blk_len, dgm_len, port_len, out_len, src_len, file_len, src_get, port_get, out_get, blk_get, dgm_get, file_get, dgm_all, blk_all, src_all, port_all, out_all, file_all, sm_len, sm_geta, sm_geta0, sm_seta, sm_seta0, g1, g2, hat, hdr, g4, hat2, rowN_cells, hup]
                    refine hK _ _ fun env' hw => ?_
                    simp only [setL_cons, setL_nil, List.set_cons_zero, List.set_cons_succ, upd_none, upd_at] at hw
                    refine hK19 _ _ (AW.weaken hw ?_); clear hw; try clear hK19 K19
                    refine AW.lastl false [70] (by rfl) fun K hK => ?_ -- region 26
                    simp only [go_sem, Nat.reduceAdd, Nat.reduceEqDiff, Nat.reduceLeDiff, true_and, List.length_map, len_row, one_row, List.drop_zero, blk_len, dgm_len, port_len, out_len, src_len, file_len, src_get, port_get, out_get, blk_get, dgm_get, file_get, dgm_all, blk_all, src_all, port_all, out_all, file_all, sm_len, sm_geta, sm_geta0, sm_seta, sm_seta0, g1, g2, hat, hdr, g4, hat2, rowN_cells]
                    refine hK _ _ fun env' hw => ?_
                    simp only [setL_cons, setL_nil, List.set_cons_zero, List.set_cons_succ] at hw
                    refine ⟨(x + 1, M2), by simp only; omega, ⟨by simp only; omega, hwn.trans hst⟩, ?_, ?_⟩
                    · refine hw.trans ?_
                      simp [Wk, wrap_succ hx1 hlo]
                    · simp [List.take_append, List.take_of_length_le, sm_len, dgm_cells, hM2]
            · skip
              have hxo : x = o.length := by
                have : ¬ x < o.length := by simpa using hc71
                omega
              have hwk : walkM f d (startM d []) o = some M := by rw [hxo, List.take_length] at hwk; exact hwk
              refine AW.exit ?_
              refine hK15 _ _ ?_; try clear hK15 K15
              refine AW.seq_k fun K38 hK38 => ?_
              refine AW.regl false [115, 116, 117] (by rfl) fun K39 hK39 => ?_ -- region 27
              simp only [go_sem, Nat.reduceAdd, Nat.reduceEqDiff, Nat.reduceLeDiff, true_and, List.length_map, len_row, one_row, List.drop_zero, blk_len, dgm_len, port_len, out_len, src_len, file_len, src_get, port_get, out_get, blk_get, dgm_get, file_get, dgm_all, blk_all, src_all, port_all, out_all, file_all, sm_len, sm_geta, sm_geta0, sm_seta, sm_seta0, g1, g2, hat, hdr, g4, hat2, rowN_cells, Dgm.enc]
              refine hK39 _ _ ?_; try clear hK39 K39
              conv => enter [5]; simp only [setL_cons, setL_nil, List.set_cons_zero, List.set_cons_succ]
              refine AW.block ?_
              refine AW.loop_dr (α := Nat) (fun j => [.any, .any, .any, (.ref σ.length 0), (.ref (σ.length + 1) 0), (.ref (σ.length + 2) 0), .any, .any, .any, .any, .any, .any, .any, .any, .any, .any, .any, .any, .any, .any, .any, .any, .any, .any, .any, .any, .any, .any, .any, .any, .any, .any, .any, .any, .any, .any, .any, .any, .any, .any, .any, .any, .any, .any, .any, .any, .any, .any, .any, .any, .any, .any, .any, .any, .any, .any, .any, .any, .any, .any, .any, .any, .any, .any, .any, .any, .any, .any, .any, .any, .any, .any, .any, .any, .any, .any, .any, .any, .any, .any, .any, .any, .any, .any, .any, .any, .any, .any, .any, .any, .any, .any, .any, .any, .any, .any, .any, .any, .any, .any, .any, .any, .any, .any, .any, .any, .any, .any, .any, .any, .any, .any, .any, .any, .any, (rowAV 7 d.nlB (d.blocks.map Blk.enc)), (.val (.int .i64 ((d.blocks.length : Nat) : Int))), (.val (.int .i64 ((j : Nat) : Int))), .any, .any, .any, .any, .any, .any, .any, .any, .any, .any, .any, .any, .any, .any, .any, .any, .any, .any, .any, .any, .any, .any, .any, .any, .any, .any, .any, .any, .any]) (fun j => sm σ om M ++ [.cells [.ref ot 0], .cells [i64 ((i : Nat) : Int)], .cells d.enc.cells]) (fun j => d.blocks.length - j) (fun j => j ≤ d.blocks.length ∧ (d.blocks.take j).all (fun b => !((b.kind == 4) && ((b.src[0]?.map (lkM M)).getD 0 != b.op))) = true) 0 ?_ ?_ ?_
              · exact ⟨⟨Nat.zero_le _, rfl⟩, by simp [Wk], rfl⟩
              · refine fun y _ => ⟨?_, sm_bela σ om fun a ha => ?_⟩
                · simp only [belL, AV.bel, Bool.and_true, Bool.true_and, Bool.and_eq_true, decide_eq_true_eq, sm_len, List.length_append, List.length_cons, List.length_nil, row_bel src_bel, row_bel blk_bel, row_bel port_bel, row_bel out_bel, row_bel int_bel, row_bel nat_bel, row_bel str_bel, belL_map intA _ fun _ _ => int_bel _ _, and_true, true_and, Nat.reduceAdd]
                  try omega
                · simp only [List.mem_cons, List.not_mem_nil, or_false] at ha
                  rcases ha with rfl | rfl | rfl
                  · simp [AO.bel, belL, AV.bel, sm_len]
                    omega
                  · rfl
                  · exact dgm_cb d _
              · rintro j ⟨hj, hde⟩
                refine AW.regl false [118] (by rfl) fun K40 hK40 => ?_ -- region 28
                simp only [go_sem, Nat.reduceAdd, Nat.reduceEqDiff, Nat.reduceLeDiff, true_and, List.length_map, len_row, one_row, List.drop_zero, blk_len, dgm_len, port_len, out_len, src_len, file_len, src_get, port_get, out_get, blk_get, dgm_get, file_get, dgm_all, blk_all, src_all, port_all, out_all, file_all, sm_len, sm_geta, sm_geta0, sm_seta, sm_seta0, g1, g2, hat, hdr, g4, hat2, rowN_cells]
                refine hK40 _ _ ?_; try clear hK40 K40
                conv => enter [5]; simp only [setL_cons, setL_nil, List.set_cons_zero, List.set_cons_succ]
                refine AW.seq_k fun K41 hK41 => ?_
                refine AW.cond rfl (fun hc118 => ?_) (fun hc118 => ?_)
                · skip
                  have hj1 : j < d.blocks.length := by simpa using hc118
                  obtain ⟨b, hbj⟩ : ∃ z, z = d.blocks[j] := ⟨_, rfl⟩
                  have hz : (d.blocks.map Blk.enc)[j]? = some b.enc := by rw [hbj]; simp [hj1]
                  have hbm : b ∈ d.blocks := by rw [hbj]; exact List.getElem_mem hj1
                  refine AW.skip ?_
                  refine hK41 _ _ ?_; try clear hK41 K41
                  refine AW.seq_k fun K42 hK42 => ?_
                  refine AW.block ?_
                  refine AW.regl false [18] (by rfl) fun K43 hK43 => ?_ -- region 29
                  simp only [go_sem, Nat.reduceAdd, Nat.reduceEqDiff, Nat.reduceLeDiff, true_and, List.length_map, len_row, one_row, List.drop_zero, blk_len, dgm_len, port_len, out_len, src_len, file_len, src_get, port_get, out_get, blk_get, dgm_get, file_get, dgm_all, blk_all, src_all, port_all, out_all, file_all, sm_len, sm_geta, sm_geta0, sm_seta, sm_seta0, g1, g2, hat, hdr, g4, hat2, rowN_cells, at_row hz]
                  refine hK43 _ _ ?_; try clear hK43 K43
                  conv => enter [5]; simp only [setL_cons, setL_nil, List.set_cons_zero, List.set_cons_succ, upd_none, upd_at]
                  refine AW.regtdf mixed false 140 (.val (.bool ((b.kind == 4) && ((b.src[0]?.map (lkM M)).getD 0 != b.op)))) (by kernel_rfl) (by rfl) ?_ ?_ -- region 30
                  · skip
                    cases h123 : (b.kind == 4)
                    · skip
                      simp only [go_sem, Nat.reduceAdd, Nat.reduceEqDiff, Nat.reduceLeDiff, true_and, List.length_map, len_row, one_row, List.drop_zero, blk_len, dgm_len, port_len, out_len, src_len, file_len, src_get, port_get, out_get, blk_get, dgm_get, file_get, dgm_all, blk_all, src_all, port_all, out_all, file_all, sm_len, sm_geta, sm_geta0, sm_seta, sm_seta0, g1, g2, hat, hdr, g4, hat2, rowN_cells, Blk.enc, h123]
                      try simp [upd_at, h123, List.length_map, len_row, one_row, List.drop_zero, blk_len, dgm_len, port_len, out_len, src_len, file_len, src_get, port_get, out_get, blk_get, dgm_get, file_get, dgm_all, blk_all, src_all, port_all, out_all, file_all, sm_len, sm_geta, sm_geta0, sm_seta, sm_seta0, g1, g2, hat, hdr, g4, hat2, rowN_cells, Blk.enc]
                      all_goals first | (simp [h123, hs0]; done) | (simp [h123]; done) | skip
                    · skip
                      have h4 : b.kind = 4 := by simpa using h123
                      have hl1 := (hw b hbm).one (.inr h4)
                      obtain ⟨s0, hs0⟩ : ∃ z, b.src[0]? = some z := ⟨_, List.getElem?_eq_getElem (by omega)⟩
                      have hy0 : (b.src.map Src.enc)[0]? = some s0.enc := by simp [hs0]
                      have hr0 : aAt 2 (rowAV 2 b.nl (b.src.map Src.enc)) (.val (.int .i64 0)) = some (.er s0.enc.cells) := at_row (i := 0) hy0
                      have hlk := fun l => lk88f (g3 M l) s0.block s0.port
                      rw [show (look M (s0.block, s0.port)).getD 0 = lkM M s0 from rfl] at hlk
                      simp only [go_sem, Nat.reduceAdd, Nat.reduceEqDiff, Nat.reduceLeDiff, true_and, List.length_map, len_row, one_row, List.drop_zero, blk_len, dgm_len, port_len, out_len, src_len, file_len, src_get, port_get, out_get, blk_get, dgm_get, file_get, dgm_all, blk_all, src_all, port_all, out_all, file_all, sm_len, sm_geta, sm_geta0, sm_seta, sm_seta0, g1, g2, hat, hdr, g4, hat2, rowN_cells, Blk.enc, h123, hr0, hlk, Src.enc]
                      try simp [upd_at, h123, hr0, hlk, Src.enc, List.length_map, len_row, one_row, List.drop_zero, blk_len, dgm_len, port_len, out_len, src_len, file_len, src_get, port_get, out_get, blk_get, dgm_get, file_get, dgm_all, blk_all, src_all, port_all, out_all, file_all, sm_len, sm_geta, sm_geta0, sm_seta, sm_seta0, g1, g2, hat, hdr, g4, hat2, rowN_cells, Blk.enc]
                      all_goals first | (simp [h123, hs0]; done) | (simp [h123]; done) | skip
                  conv => enter [5]; simp only [List.set_cons_zero, List.set_cons_succ]
                  refine AW.cond rfl (fun hc140 => ?_) (fun hc140 => ?_)
                  · skip
                    have hTB : typedB f d o = false := by unfold typedB; rw [hwk]; simp only []; rw [endB, all_at hj1 (by rw [← hbj, hc140]; rfl)]; rfl
                    refine AW.regl false [6] (by rfl) fun K45 hK45 => ?_ -- region 31
                    simp only [go_sem, Nat.reduceAdd, Nat.reduceEqDiff, Nat.reduceLeDiff, true_and, List.length_map, len_row, one_row, List.drop_zero, blk_len, dgm_len, port_len, out_len, src_len, file_len, src_get, port_get, out_get, blk_get, dgm_get, file_get, dgm_all, blk_all, src_all, port_all, out_all, file_all, sm_len, sm_geta, sm_geta0, sm_seta, sm_seta0, g1, g2, hat, hdr, g4, hat2, rowN_cells]
                    refine hK45 _ _ ?_; try clear hK45 K45
                    conv => enter [5]; simp only [setL_cons, setL_nil, List.set_cons_zero, List.set_cons_succ]
                    exact AW.ret ⟨.inr rfl, _, rfl, sm σ om M, _, rfl, by rw [sm_len, sm_len], fun i a h => sm_keep i a h, rfl, _, rfl, by rw [hTB], fun h => by rw [hTB] at h; cases h⟩
                  · skip
                    refine AW.skip ?_
                    refine hK42 _ _ ?_; try clear hK42 K42
                    refine AW.lastl false [117] (by rfl) fun K hK => ?_ -- region 32
                    simp only [go_sem, Nat.reduceAdd, Nat.reduceEqDiff, Nat.reduceLeDiff, true_and, List.length_map, len_row, one_row, List.drop_zero, blk_len, dgm_len, port_len, out_len, src_len, file_len, src_get, port_get, out_get, blk_get, dgm_get, file_get, dgm_all, blk_all, src_all, port_all, out_all, file_all, sm_len, sm_geta, sm_geta0, sm_seta, sm_seta0, g1, g2, hat, hdr, g4, hat2, rowN_cells]
                    refine hK _ _ fun env' hw => ?_
                    simp only [setL_cons, setL_nil, List.set_cons_zero, List.set_cons_succ] at hw
                    refine ⟨j + 1, by omega, ⟨by omega, all_snoc hj1 hde (by rw [hbj] at hc140; show (!_) = true; rw [hc140]; rfl)⟩, ?_, ?_⟩
                    · refine hw.trans ?_
                      simp [Wk, wrap_succ hj1 hlB]
                    · simp [List.take_append, List.take_of_length_le, sm_len, dgm_cells]
                · skip
                  have hj1 : j = d.blocks.length := by
                    have : ¬ j < d.blocks.length := by simpa using hc118
                    omega
                  have hde : d.blocks.all (fun b => !((b.kind == 4) && ((b.src[0]?.map (lkM M)).getD 0 != b.op))) = true := by rw [hj1, List.take_length] at hde; exact hde
                  refine AW.exit ?_
                  refine hK38 _ _ ?_; try clear hK38 K38
                  refine AW.regl false [6] (by rfl) fun K46 hK46 => ?_ -- region 33
                  simp only [go_sem, Nat.reduceAdd, Nat.reduceEqDiff, Nat.reduceLeDiff, true_and, List.length_map, len_row, one_row, List.drop_zero, blk_len, dgm_len, port_len, out_len, src_len, file_len, src_get, port_get, out_get, blk_get, dgm_get, file_get, dgm_all, blk_all, src_all, port_all, out_all, file_all, sm_len, sm_geta, sm_geta0, sm_seta, sm_seta0, g1, g2, hat, hdr, g4, hat2, rowN_cells, Dgm.enc]
                  refine sC.of en69 (containsFunc69 OutM.enc out_get d.nlO d.outs hlO 81 en81 _ (fun o => lkM M o.src != o.port.type) _ (fun o _ => outT_at hT M o (o1 := σ.length) (o2 := σ.length + 1) [.cells [.ref ot 0], .cells [i64 ((i : Nat) : Int)], .cells d.enc.cells] (by simp) (by simp) (by have := hT.m; omega) (by have := hT.m; omega))).here (by rfl) ?_
                  simp only [go_sem, Nat.reduceAdd, Nat.reduceEqDiff, Nat.reduceLeDiff, true_and, List.length_map, len_row, one_row, List.drop_zero, blk_len, dgm_len, port_len, out_len, src_len, file_len, src_get, port_get, out_get, blk_get, dgm_get, file_get, dgm_all, blk_all, src_all, port_all, out_all, file_all, sm_len, sm_geta, sm_geta0, sm_seta, sm_seta0, g1, g2, hat, hdr, g4, hat2, rowN_cells, Dgm.enc]
                  refine hK46 _ _ ?_; try clear hK46 K46
                  conv => enter [5]; simp only [setL_cons, setL_nil, List.set_cons_zero, List.set_cons_succ]
                  exact AW.ret ⟨.inr rfl, _, rfl, sm σ om M, _, rfl, by rw [sm_len, sm_len], fun i a h => sm_keep i a h, rfl, _, rfl, by unfold typedB; rw [hwk]; simp only []; rw [endB, hde]; rfl, fun _ => hwk⟩
end Fl
end Go.Proofs.Tryd
/-! Flow: function 74. -/
namespace Go.Proofs.Tryd
set_option linter.unusedSimpArgs false
set_option linter.unusedVariables false
open Go Go.Proofs.Ev
namespace Fl
variable {Γ : List (Nat × List AV)} {w : AV} {G : List (Nat × List AV)}
set_option maxRecDepth 100000 in
theorem add_calls (hΓ : A.Words Γ) (p : PortM) (hp : p.name.size ≤ 65535) (L : List ByteArray) {σ : Sto} {oc op : Nat} (h1 : σ[oc]? = some (.cells [.mapo op])) (h2 : σ[op]? = some (mapP L)) : ACalls prog Γ 74 [p.enc, .ref oc 0] σ (fun v σ' => σ' = σ.set op (mapP (insP L p.name)) ∧ v = .val (.bool (A.nameM p.name && !(findS L p.name).isSome))) := by
  refine ACalls.ofT func74 rfl ?_
  simp only [ntmps74, List.length_cons, List.length_nil, Nat.reduceAdd, Nat.reduceSub, List.replicate_succ, List.replicate_zero, List.cons_append, List.nil_append]
  have g1 := getL h1
  have g2 := getL h2
  have hop := (List.getElem?_eq_some_iff.1 h2).1
  have hlk := fun l => lkP (g2 l) p.name
  have hup := fun l => upP (g2 l) p.name
  simp only [List.set_append_left _ _ hop] at hup
  refine AW.regl false [2, 3] (by rfl) fun K1 hK1 => ?_ -- region 0
  simp only [go_sem, Nat.reduceAdd, Nat.reduceEqDiff, Nat.reduceLeDiff, true_and, List.length_map, len_row, one_row, List.drop_zero, blk_len, dgm_len, port_len, out_len, src_len, file_len, src_get, port_get, out_get, blk_get, dgm_get, file_get, dgm_all, blk_all, src_all, port_all, out_all, file_all, g1, hlk, hup, PortM.enc]
  refine hK1 _ _ ?_; try clear hK1 K1
  conv => enter [5]; simp only [setL_cons, setL_nil, List.set_cons_zero, List.set_cons_succ]
  refine AW.regtf false 4 (.val (.bool (A.nameM p.name && !((findS L p.name).isSome)))) (by rfl) ?_ ?_ -- region 1
  · skip
    cases h7 : (A.nameM p.name)
    · skip
      simp only [go_sem, Nat.reduceAdd, Nat.reduceEqDiff, Nat.reduceLeDiff, true_and, List.length_map, len_row, one_row, List.drop_zero, blk_len, dgm_len, port_len, out_len, src_len, file_len, src_get, port_get, out_get, blk_get, dgm_get, file_get, dgm_all, blk_all, src_all, port_all, out_all, file_all, g1, hlk, hup, PortM.enc, h7]
      refine sC.of en75 ((A.name_calls hΓ p.name (by omega)).on _).here (by rfl) ?_
      simp only [go_sem, Nat.reduceAdd, Nat.reduceEqDiff, Nat.reduceLeDiff, true_and, List.length_map, len_row, one_row, List.drop_zero, blk_len, dgm_len, port_len, out_len, src_len, file_len, src_get, port_get, out_get, blk_get, dgm_get, file_get, dgm_all, blk_all, src_all, port_all, out_all, file_all, g1, hlk, hup, PortM.enc, h7]
      try simp [upd_at, h7, List.length_map, len_row, one_row, List.drop_zero, blk_len, dgm_len, port_len, out_len, src_len, file_len, src_get, port_get, out_get, blk_get, dgm_get, file_get, dgm_all, blk_all, src_all, port_all, out_all, file_all, g1, hlk, hup, PortM.enc]
    · skip
      simp only [go_sem, Nat.reduceAdd, Nat.reduceEqDiff, Nat.reduceLeDiff, true_and, List.length_map, len_row, one_row, List.drop_zero, blk_len, dgm_len, port_len, out_len, src_len, file_len, src_get, port_get, out_get, blk_get, dgm_get, file_get, dgm_all, blk_all, src_all, port_all, out_all, file_all, g1, hlk, hup, PortM.enc, h7]
      refine sC.of en75 ((A.name_calls hΓ p.name (by omega)).on _).here (by rfl) ?_
      simp only [go_sem, Nat.reduceAdd, Nat.reduceEqDiff, Nat.reduceLeDiff, true_and, List.length_map, len_row, one_row, List.drop_zero, blk_len, dgm_len, port_len, out_len, src_len, file_len, src_get, port_get, out_get, blk_get, dgm_get, file_get, dgm_all, blk_all, src_all, port_all, out_all, file_all, g1, hlk, hup, PortM.enc, h7]
      try simp [upd_at, h7, List.length_map, len_row, one_row, List.drop_zero, blk_len, dgm_len, port_len, out_len, src_len, file_len, src_get, port_get, out_get, blk_get, dgm_get, file_get, dgm_all, blk_all, src_all, port_all, out_all, file_all, g1, hlk, hup, PortM.enc]
  conv => enter [5]; simp only [List.set_cons_zero, List.set_cons_succ]
  refine AW.regl false [] (by rfl) fun K3 hK3 => ?_ -- region 2
  simp only [go_sem, Nat.reduceAdd, Nat.reduceEqDiff, Nat.reduceLeDiff, true_and, List.length_map, len_row, one_row, List.drop_zero, blk_len, dgm_len, port_len, out_len, src_len, file_len, src_get, port_get, out_get, blk_get, dgm_get, file_get, dgm_all, blk_all, src_all, port_all, out_all, file_all, g1, hlk, hup, PortM.enc]
  refine hK3 _ _ ?_; try clear hK3 K3
  conv => enter [5]; simp only [setL_cons, setL_nil, List.set_cons_zero, List.set_cons_succ, upd_none, upd_at]
  refine AW.regl false [3] (by rfl) fun K4 hK4 => ?_ -- region 3
  simp only [go_sem, Nat.reduceAdd, Nat.reduceEqDiff, Nat.reduceLeDiff, true_and, List.length_map, len_row, one_row, List.drop_zero, blk_len, dgm_len, port_len, out_len, src_len, file_len, src_get, port_get, out_get, blk_get, dgm_get, file_get, dgm_all, blk_all, src_all, port_all, out_all, file_all, g1, hlk, hup, PortM.enc]
  refine hK4 _ _ ?_; try clear hK4 K4
  conv => enter [5]; simp only [setL_cons, setL_nil, List.set_cons_zero, List.set_cons_succ]
  exact AW.ret ⟨.inr rfl, _, rfl, σ.set op (mapP (insP L p.name)), _, rfl, by simp, fun j a h => set_bel (mapP_bel _ _) j a h, rfl, rfl, rfl⟩
end Fl
end Go.Proofs.Tryd
