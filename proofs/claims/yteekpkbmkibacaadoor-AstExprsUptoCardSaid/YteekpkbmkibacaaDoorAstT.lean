import Derived.Test.YteekpkbmkibacaaDoorAstS
/-! Programs: whether two are the same, as the document says. -/
namespace Go.Proofs.Tryd
set_option linter.unusedSimpArgs false
set_option linter.unusedVariables false
open Go Go.Proofs.Ev
namespace A
variable {Γ : List (Nat × List AV)}
theorem eq_key {x y : EqM} : x.key = y.key ↔ x.lhs = y.lhs ∧ x.rhs.norm = y.rhs.norm := by simp [EqM.key]
theorem stp {α : Type} {l l' : List α} {i : Nat} (h : i < l.length) (h' : i < l'.length) (ht : l.take i = l'.take i) (he : l[i] = l'[i]) : l.take (i + 1) = l'.take (i + 1) := by
  rw [List.take_succ_eq_append_getElem h, List.take_succ_eq_append_getElem h', ht, he]
def aw1 : E := .mk 0 0 1 ⟨#[]⟩ true []
def aw2 : E := .mk 4 11 0 ⟨#[]⟩ true [aw1, aw1]
theorem aw1_enc : aw1.enc = .agg [i64 0, i64 0, i64 1, str ⟨#[]⟩, .nilsl] := by rw [aw1, E.enc_mk]; rfl
theorem aw2_enc : aw2.enc = .agg [i64 4, i64 11, i64 0, str ⟨#[]⟩, .sl 5 [aw1.enc, aw1.enc]] := by rw [aw2, E.enc_mk]; rfl
theorem aw2_size : aw2.size < 9223372036854775808 := by decide
theorem aw2_fits : aw2.fits := by
  intro d hd
  simp only [aw2, aw1, E.pre, preL, List.append_nil, List.mem_cons, List.not_mem_nil, or_false, List.cons_append, List.nil_append] at hd
  rcases hd with rfl | rfl | rfl <;> exact Nat.zero_le _
theorem row2_45 (σ : Sto) : aRow prog false σ 45 2 [(0, .agg [i64 0, i64 0, i64 1, str ⟨#[]⟩, .nilsl]), (1, .agg [i64 0, i64 0, i64 1, str ⟨#[]⟩, .nilsl])] = some (.sl 5 [.agg [i64 0, i64 0, i64 1, str ⟨#[]⟩, .nilsl], .agg [i64 0, i64 0, i64 1, str ⟨#[]⟩, .nilsl]], σ) := aRow_sl (by kernel_rfl) (by decide) (row45 (by decide) (by decide) rfl (parts_of rfl)) σ
theorem aw_true : (aw2.depth : Int) == 2 && (aw2.size : Int) == 3 && (aw2.pre.all E.single && decide ((aw2.depth : Int) ≤ 200)) && !nameM ⟨#[112, 114, 101]⟩ && nameM ⟨#[80, 114, 101]⟩ := by kernel_rfl
set_option maxRecDepth 100000 in
set_option maxHeartbeats 2000000 in
theorem rpsame_calls (p p' : ProgM) (hpk : p.ok) : APure prog Γ 42 [p.enc, p'.enc] (bool (decide (p.key = p'.key))) := by
  refine APure.of func42 rfl fun σ => ?_
  simp only [ntmps42, List.length_cons, List.length_nil, Nat.reduceAdd, Nat.reduceSub, List.replicate_succ, List.replicate_zero, List.cons_append, List.nil_append]
  have hl : p.nodes.length ≤ maxLen := by rw [maxLen_eq]; have := hpk.1; omega
  refine AW.regl false [2, 3, 4] (by rfl) fun K1 hK1 => ?_ -- region 0
  simp only [go_sem, Nat.reduceAdd, Nat.reduceEqDiff, Nat.reduceLeDiff, true_and, ProgM.enc, NodeM.enc, EqM.enc, VarM.enc, enc_one, enc_len, enc_get43, enc_get47, eqc_get81, eqc_get128, List.length_map, List.length_cons, List.all_cons, one_row, len_row, ba_beqL, List.drop_succ_cons, List.drop_zero]
  refine hK1 _ _ ?_; try clear hK1 K1
  conv => enter [5]; simp only [setL_cons, setL_nil, List.set_cons_zero, List.set_cons_succ]
  refine AW.seq_k fun K2 hK2 => ?_
  refine AW.regl false [16] (by rfl) fun K3 hK3 => ?_ -- region 1
  simp only [go_sem, Nat.reduceAdd, Nat.reduceEqDiff, Nat.reduceLeDiff, true_and, ProgM.enc, NodeM.enc, EqM.enc, VarM.enc, enc_one, enc_len, enc_get43, enc_get47, eqc_get81, eqc_get128, List.length_map, List.length_cons, List.all_cons, one_row, len_row, ba_beqL, List.drop_succ_cons, List.drop_zero]
  refine hK3 _ _ ?_; try clear hK3 K3
  conv => enter [5]; simp only [setL_cons, setL_nil, List.set_cons_zero, List.set_cons_succ]
  refine AW.cond rfl (fun hc16 => ?_) (fun hc16 => ?_)
  · skip
    refine AW.regl false [4] (by rfl) fun K4 hK4 => ?_ -- region 2
    simp only [go_sem, Nat.reduceAdd, Nat.reduceEqDiff, Nat.reduceLeDiff, true_and, ProgM.enc, NodeM.enc, EqM.enc, VarM.enc, enc_one, enc_len, enc_get43, enc_get47, eqc_get81, eqc_get128, List.length_map, List.length_cons, List.all_cons, one_row, len_row, ba_beqL, List.drop_succ_cons, List.drop_zero]
    refine hK4 _ _ ?_; try clear hK4 K4
    conv => enter [5]; simp only [setL_cons, setL_nil, List.set_cons_zero, List.set_cons_succ]
    refine AW.ret ⟨.inr rfl, _, rfl, by simp, ?_⟩ -- return 1
    refine frzB ?_
    refine (decide_eq_false fun e => ?_).symm
    have := map_len (key := NodeM.key) (l := p.nodes) (l' := p'.nodes) e
    simp [this] at hc16
  · skip
    have hln : p.nodes.length = p'.nodes.length := by
      have : (p.nodes.length : Int) = p'.nodes.length := by simpa using hc16
      omega
    refine AW.skip ?_
    refine hK2 _ _ ?_; try clear hK2 K2
    refine AW.seq_k fun K5 hK5 => ?_
    refine AW.regl false [5] (by rfl) fun K6 hK6 => ?_ -- region 3
    simp only [go_sem, Nat.reduceAdd, Nat.reduceEqDiff, Nat.reduceLeDiff, true_and, ProgM.enc, NodeM.enc, EqM.enc, VarM.enc, enc_one, enc_len, enc_get43, enc_get47, eqc_get81, eqc_get128, List.length_map, List.length_cons, List.all_cons, one_row, len_row, ba_beqL, List.drop_succ_cons, List.drop_zero]
    refine hK6 _ _ ?_; try clear hK6 K6
    conv => enter [5]; simp only [setL_cons, setL_nil, List.set_cons_zero, List.set_cons_succ]
    refine AW.block ?_
    refine AW.loop_dr (α := Nat) (fun i => [.any, .any, (.ref σ.length 0), (.ref (σ.length + 1) 0), .any, (.val (.int .i64 ((i : Nat) : Int))), .any, .any, .any, .any, .any, .any, .any, .any, .any, .any, .any, .any, .any, .any, .any, .any, .any, .any, .any, .any, .any, .any, .any, .any, .any, .any, .any, .any, .any, .any, .any, .any, .any, .any, .any, .any, .any, .any, .any, .any, .any, .any, .any, .any, .any, .any, .any, .any, .any, .any, .any, .any, .any, .any, .any, .any, .any, .any, .any, .any, .any, .any, .any, .any, .any, .any, .any, .any, .any, .any, .any, .any, .any, .any, .any, .any, .any, .any, .any, .any, .any, .any, .any, .any, .any, .any, .any, .any, .any, .any, .any, .any, .any, .any, .any, .any, .any, .any, .any, .any, .any, .any, .any, .any, .any, .any, .any, .any, .any, .any, .any, .any, .any, .any, .any, .any, .any, .any, .any, .any, .any, .any, .any, .any, .any, .any, .any, .any, .any, .any, .any, .any, .any, .any]) (fun i => σ ++ [.cells (ProgM.enc p).cells, .cells (ProgM.enc p').cells]) (fun i => p.nodes.length - i) (fun i => i ≤ p.nodes.length ∧ (p.nodes.take i).map NodeM.key = (p'.nodes.take i).map NodeM.key) 0 ?_ ?_ ?_
    · exact ⟨⟨Nat.zero_le _, rfl⟩, by simp [Wk], rfl⟩
    · refine fun y0 _ => ⟨by simp [belL, AV.bel], bel_app σ fun a0 ha0 => ?_⟩
      simp only [List.mem_cons, List.not_mem_nil, or_false] at ha0
      rcases ha0 with rfl | rfl
      · exact prog_bel p _
      · exact prog_bel p' _
    · rintro i ⟨hi, hit⟩
      refine AW.seq_k fun K7 hK7 => ?_
      refine AW.regl false [21] (by rfl) fun K8 hK8 => ?_ -- region 4
      simp only [go_sem, Nat.reduceAdd, Nat.reduceEqDiff, Nat.reduceLeDiff, true_and, ProgM.enc, NodeM.enc, EqM.enc, VarM.enc, enc_one, enc_len, enc_get43, enc_get47, eqc_get81, eqc_get128, List.length_map, List.length_cons, List.all_cons, one_row, len_row, ba_beqL, List.drop_succ_cons, List.drop_zero]
      refine hK8 _ _ ?_; try clear hK8 K8
      conv => enter [5]; simp only [setL_cons, setL_nil, List.set_cons_zero, List.set_cons_succ]
      refine AW.cond rfl (fun hc21 => ?_) (fun hc21 => ?_)
      · skip
        have hi1 : i < p.nodes.length := by simpa using hc21
        have hi2 : i < p'.nodes.length := by omega
        obtain ⟨x, hxi⟩ : ∃ z, z = p.nodes[i] := ⟨_, rfl⟩
        obtain ⟨y, hyi⟩ : ∃ z, z = p'.nodes[i] := ⟨_, rfl⟩
        have gxi : (p.nodes.map NodeM.enc)[i]? = some (NodeM.enc x) := by rw [hxi, List.getElem?_map, List.getElem?_eq_getElem hi1]; rfl
        have gyi : (p'.nodes.map NodeM.enc)[i]? = some (NodeM.enc y) := by rw [hyi, List.getElem?_map, List.getElem?_eq_getElem hi2]; rfl
        have hok : x.ok := hpk.2 x (by rw [hxi]; exact mem_at hi1)
        have hle : x.eqs.length ≤ maxLen := by rw [maxLen_eq]; have := hok.2.2.2.2.1; omega
        refine AW.skip ?_
        refine hK7 _ _ ?_; try clear hK7 K7
        refine AW.seq_k fun K9 hK9 => ?_
        refine AW.block ?_
        refine AW.regal mixed false [6, 7] 12 10 11 6 7 (by kernel_rfl) (by kernel_rfl) (by rfl) (by kernel_rfl) (by kernel_rfl) (by rfl) (by rfl) (by rfl) (hz_of zero84 rfl) (fun _ => rfl) fun K10 hK10 => ?_ -- region 6
        simp only [go_sem, Nat.reduceAdd, Nat.reduceEqDiff, Nat.reduceLeDiff, true_and, ProgM.enc, NodeM.enc, EqM.enc, VarM.enc, enc_one, enc_len, enc_get43, enc_get47, eqc_get81, eqc_get128, List.length_map, List.length_cons, List.all_cons, one_row, len_row, ba_beqL, List.drop_succ_cons, List.drop_zero, at_row gxi, at_row gyi, node_get84, node_len, List.append_assoc, List.cons_append, List.nil_append, Nat.add_assoc, upd_none]
        refine hK10 _ _ ?_; try clear hK10 K10
        conv => enter [5]; simp only [setL_cons, setL_nil, List.set_cons_zero, List.set_cons_succ, upd_none, upd_at]
        refine AW.seq_k fun K11 hK11 => ?_
        refine AW.regcuts fun K12 hK12 => ?_ -- region 7
        refine AOps.cut false 13 46 (.val (.bool ((!decide (x.name = y.name)) || !((decide (x.ins.map VarM.key = y.ins.map VarM.key)))))) (by rfl) ?_ ?_
        · skip
          cases h38 : ((!decide (x.name = y.name)))
          · skip
            simp only [go_sem, Nat.reduceAdd, Nat.reduceEqDiff, Nat.reduceLeDiff, true_and, ProgM.enc, NodeM.enc, EqM.enc, VarM.enc, enc_one, enc_len, enc_get43, enc_get47, eqc_get81, eqc_get128, List.length_map, List.length_cons, List.all_cons, one_row, len_row, ba_beqL, List.drop_succ_cons, List.drop_zero, List.take_succ_cons, List.take_zero, h38]
            refine sC.of en73 ((alike_calls x.nlI y.nlI x.ins y.ins (by rw [maxLen_eq]; have := hok.2.1.1; have := hok.2.2.1.1; have := hok.2.2.2.1.1; omega)).on _).here (by rfl) ?_
            simp only [go_sem, Nat.reduceAdd, Nat.reduceEqDiff, Nat.reduceLeDiff, true_and, ProgM.enc, NodeM.enc, EqM.enc, VarM.enc, enc_one, enc_len, enc_get43, enc_get47, eqc_get81, eqc_get128, List.length_map, List.length_cons, List.all_cons, one_row, len_row, ba_beqL, List.drop_succ_cons, List.drop_zero, List.take_succ_cons, List.take_zero, h38]
            try simp [upd_at, h38, ProgM.enc, NodeM.enc, EqM.enc, VarM.enc, enc_one, enc_len, enc_get43, enc_get47, eqc_get81, eqc_get128, List.length_map, List.length_cons, List.all_cons, one_row, len_row, ba_beqL, List.drop_succ_cons, List.drop_zero]
          · skip
            simp only [go_sem, Nat.reduceAdd, Nat.reduceEqDiff, Nat.reduceLeDiff, true_and, ProgM.enc, NodeM.enc, EqM.enc, VarM.enc, enc_one, enc_len, enc_get43, enc_get47, eqc_get81, eqc_get128, List.length_map, List.length_cons, List.all_cons, one_row, len_row, ba_beqL, List.drop_succ_cons, List.drop_zero, List.take_succ_cons, List.take_zero, h38]
            try simp [upd_at, h38, ProgM.enc, NodeM.enc, EqM.enc, VarM.enc, enc_one, enc_len, enc_get43, enc_get47, eqc_get81, eqc_get128, List.length_map, List.length_cons, List.all_cons, one_row, len_row, ba_beqL, List.drop_succ_cons, List.drop_zero]
        simp only [List.drop_succ_cons, List.drop_zero, List.set_cons_zero, List.set_cons_succ]
        refine AOps.cut false 8 54 (.val (.bool (((!decide (x.name = y.name)) || !((decide (x.ins.map VarM.key = y.ins.map VarM.key)))) || !((decide (x.outs.map VarM.key = y.outs.map VarM.key)))))) (by rfl) ?_ ?_
        · skip
          cases h46 : (((!decide (x.name = y.name)) || !((decide (x.ins.map VarM.key = y.ins.map VarM.key)))))
          · skip
            simp only [go_sem, Nat.reduceAdd, Nat.reduceEqDiff, Nat.reduceLeDiff, true_and, ProgM.enc, NodeM.enc, EqM.enc, VarM.enc, enc_one, enc_len, enc_get43, enc_get47, eqc_get81, eqc_get128, List.length_map, List.length_cons, List.all_cons, one_row, len_row, ba_beqL, List.drop_succ_cons, List.drop_zero, List.take_succ_cons, List.take_zero, h46]
            refine sC.of en73 ((alike_calls x.nlO y.nlO x.outs y.outs (by rw [maxLen_eq]; have := hok.2.1.1; have := hok.2.2.1.1; have := hok.2.2.2.1.1; omega)).on _).here (by rfl) ?_
            simp only [go_sem, Nat.reduceAdd, Nat.reduceEqDiff, Nat.reduceLeDiff, true_and, ProgM.enc, NodeM.enc, EqM.enc, VarM.enc, enc_one, enc_len, enc_get43, enc_get47, eqc_get81, eqc_get128, List.length_map, List.length_cons, List.all_cons, one_row, len_row, ba_beqL, List.drop_succ_cons, List.drop_zero, List.take_succ_cons, List.take_zero, h46]
            try simp [upd_at, h46, ProgM.enc, NodeM.enc, EqM.enc, VarM.enc, enc_one, enc_len, enc_get43, enc_get47, eqc_get81, eqc_get128, List.length_map, List.length_cons, List.all_cons, one_row, len_row, ba_beqL, List.drop_succ_cons, List.drop_zero]
          · skip
            simp only [go_sem, Nat.reduceAdd, Nat.reduceEqDiff, Nat.reduceLeDiff, true_and, ProgM.enc, NodeM.enc, EqM.enc, VarM.enc, enc_one, enc_len, enc_get43, enc_get47, eqc_get81, eqc_get128, List.length_map, List.length_cons, List.all_cons, one_row, len_row, ba_beqL, List.drop_succ_cons, List.drop_zero, List.take_succ_cons, List.take_zero, h46]
            try simp [upd_at, h46, ProgM.enc, NodeM.enc, EqM.enc, VarM.enc, enc_one, enc_len, enc_get43, enc_get47, eqc_get81, eqc_get128, List.length_map, List.length_cons, List.all_cons, one_row, len_row, ba_beqL, List.drop_succ_cons, List.drop_zero]
        simp only [List.drop_succ_cons, List.drop_zero, List.set_cons_zero, List.set_cons_succ]
        refine AOps.cut false 8 62 (.val (.bool ((((!decide (x.name = y.name)) || !((decide (x.ins.map VarM.key = y.ins.map VarM.key)))) || !((decide (x.outs.map VarM.key = y.outs.map VarM.key)))) || !((decide (x.locals.map VarM.key = y.locals.map VarM.key)))))) (by rfl) ?_ ?_
        · skip
          cases h54 : ((((!decide (x.name = y.name)) || !((decide (x.ins.map VarM.key = y.ins.map VarM.key)))) || !((decide (x.outs.map VarM.key = y.outs.map VarM.key)))))
          · skip
            simp only [go_sem, Nat.reduceAdd, Nat.reduceEqDiff, Nat.reduceLeDiff, true_and, ProgM.enc, NodeM.enc, EqM.enc, VarM.enc, enc_one, enc_len, enc_get43, enc_get47, eqc_get81, eqc_get128, List.length_map, List.length_cons, List.all_cons, one_row, len_row, ba_beqL, List.drop_succ_cons, List.drop_zero, List.take_succ_cons, List.take_zero, h54]
            refine sC.of en73 ((alike_calls x.nlL y.nlL x.locals y.locals (by rw [maxLen_eq]; have := hok.2.1.1; have := hok.2.2.1.1; have := hok.2.2.2.1.1; omega)).on _).here (by rfl) ?_
            simp only [go_sem, Nat.reduceAdd, Nat.reduceEqDiff, Nat.reduceLeDiff, true_and, ProgM.enc, NodeM.enc, EqM.enc, VarM.enc, enc_one, enc_len, enc_get43, enc_get47, eqc_get81, eqc_get128, List.length_map, List.length_cons, List.all_cons, one_row, len_row, ba_beqL, List.drop_succ_cons, List.drop_zero, List.take_succ_cons, List.take_zero, h54]
            try simp [upd_at, h54, ProgM.enc, NodeM.enc, EqM.enc, VarM.enc, enc_one, enc_len, enc_get43, enc_get47, eqc_get81, eqc_get128, List.length_map, List.length_cons, List.all_cons, one_row, len_row, ba_beqL, List.drop_succ_cons, List.drop_zero]
          · skip
            simp only [go_sem, Nat.reduceAdd, Nat.reduceEqDiff, Nat.reduceLeDiff, true_and, ProgM.enc, NodeM.enc, EqM.enc, VarM.enc, enc_one, enc_len, enc_get43, enc_get47, eqc_get81, eqc_get128, List.length_map, List.length_cons, List.all_cons, one_row, len_row, ba_beqL, List.drop_succ_cons, List.drop_zero, List.take_succ_cons, List.take_zero, h54]
            try simp [upd_at, h54, ProgM.enc, NodeM.enc, EqM.enc, VarM.enc, enc_one, enc_len, enc_get43, enc_get47, eqc_get81, eqc_get128, List.length_map, List.length_cons, List.all_cons, one_row, len_row, ba_beqL, List.drop_succ_cons, List.drop_zero]
        simp only [List.drop_succ_cons, List.drop_zero, List.set_cons_zero, List.set_cons_succ]
        refine AOps.cut false 9 71 (.val (.bool (((((!decide (x.name = y.name)) || !((decide (x.ins.map VarM.key = y.ins.map VarM.key)))) || !((decide (x.outs.map VarM.key = y.outs.map VarM.key)))) || !((decide (x.locals.map VarM.key = y.locals.map VarM.key)))) || (((x.eqs.length : Nat) : Int) != ((y.eqs.length : Nat) : Int))))) (by rfl) ?_ ?_
        · skip
          cases h62 : (((((!decide (x.name = y.name)) || !((decide (x.ins.map VarM.key = y.ins.map VarM.key)))) || !((decide (x.outs.map VarM.key = y.outs.map VarM.key)))) || !((decide (x.locals.map VarM.key = y.locals.map VarM.key)))))
          · skip
            simp only [go_sem, Nat.reduceAdd, Nat.reduceEqDiff, Nat.reduceLeDiff, true_and, ProgM.enc, NodeM.enc, EqM.enc, VarM.enc, enc_one, enc_len, enc_get43, enc_get47, eqc_get81, eqc_get128, List.length_map, List.length_cons, List.all_cons, one_row, len_row, ba_beqL, List.drop_succ_cons, List.drop_zero, List.take_succ_cons, List.take_zero, h62]
            try simp [upd_at, h62, ProgM.enc, NodeM.enc, EqM.enc, VarM.enc, enc_one, enc_len, enc_get43, enc_get47, eqc_get81, eqc_get128, List.length_map, List.length_cons, List.all_cons, one_row, len_row, ba_beqL, List.drop_succ_cons, List.drop_zero]
          · skip
            simp only [go_sem, Nat.reduceAdd, Nat.reduceEqDiff, Nat.reduceLeDiff, true_and, ProgM.enc, NodeM.enc, EqM.enc, VarM.enc, enc_one, enc_len, enc_get43, enc_get47, eqc_get81, eqc_get128, List.length_map, List.length_cons, List.all_cons, one_row, len_row, ba_beqL, List.drop_succ_cons, List.drop_zero, List.take_succ_cons, List.take_zero, h62]
            try simp [upd_at, h62, ProgM.enc, NodeM.enc, EqM.enc, VarM.enc, enc_one, enc_len, enc_get43, enc_get47, eqc_get81, eqc_get128, List.length_map, List.length_cons, List.all_cons, one_row, len_row, ba_beqL, List.drop_succ_cons, List.drop_zero]
        simp only [List.drop_succ_cons, List.drop_zero, List.set_cons_zero, List.set_cons_succ]
        refine AOps.nil (hK12 _ _ ?_); try clear hK12 K12
        refine AW.cond rfl (fun hc71 => ?_) (fun hc71 => ?_)
        · skip
          refine AW.regl false [4] (by rfl) fun K13 hK13 => ?_ -- region 8
          simp only [go_sem, Nat.reduceAdd, Nat.reduceEqDiff, Nat.reduceLeDiff, true_and, ProgM.enc, NodeM.enc, EqM.enc, VarM.enc, enc_one, enc_len, enc_get43, enc_get47, eqc_get81, eqc_get128, List.length_map, List.length_cons, List.all_cons, one_row, len_row, ba_beqL, List.drop_succ_cons, List.drop_zero]
          refine hK13 _ _ ?_; try clear hK13 K13
          conv => enter [5]; simp only [setL_cons, setL_nil, List.set_cons_zero, List.set_cons_succ]
          refine AW.ret ⟨.inr rfl, _, rfl, by simp, ?_⟩ -- return 2
          refine frzB ?_
          refine (decide_eq_false ?_).symm
          show ¬ p.nodes.map NodeM.key = p'.nodes.map NodeM.key
          refine eq_at hi1 hi2 ?_
          rw [← hxi, ← hyi]
          intro e
          obtain ⟨e1, e2, e3, e4, e5⟩ := node_key.1 e
          simp [e1, e2, e3, e4, map_len e5] at hc71
        · skip
          have hN : x.name = y.name ∧ x.ins.map VarM.key = y.ins.map VarM.key ∧ x.outs.map VarM.key = y.outs.map VarM.key ∧ x.locals.map VarM.key = y.locals.map VarM.key ∧ x.eqs.length = y.eqs.length := by
            simp only [Bool.or_eq_false_iff, bne_eq_false_iff_eq, Bool.not_eq_false', decide_eq_true_eq] at hc71
            obtain ⟨⟨⟨⟨g1, g2⟩, g3⟩, g4⟩, g5⟩ := hc71
            exact ⟨g1, g2, g3, g4, by omega⟩
          have hlq := hN.2.2.2.2
          refine AW.skip ?_
          refine hK11 _ _ ?_; try clear hK11 K11
          refine AW.regl false [8] (by rfl) fun K14 hK14 => ?_ -- region 9
          simp only [go_sem, Nat.reduceAdd, Nat.reduceEqDiff, Nat.reduceLeDiff, true_and, ProgM.enc, NodeM.enc, EqM.enc, VarM.enc, enc_one, enc_len, enc_get43, enc_get47, eqc_get81, eqc_get128, List.length_map, List.length_cons, List.all_cons, one_row, len_row, ba_beqL, List.drop_succ_cons, List.drop_zero]
          refine hK14 _ _ ?_; try clear hK14 K14
          conv => enter [5]; simp only [setL_cons, setL_nil, List.set_cons_zero, List.set_cons_succ]
          refine AW.block ?_
          refine AW.loop_wk (α := Nat) (fun j => [.any, .any, (.ref σ.length 0), (.ref (σ.length + 1) 0), .any, (.val (.int .i64 ((i : Nat) : Int))), (.ref (σ.length + 2) 0), (.ref (σ.length + 3) 0), (.val (.int .i64 ((j : Nat) : Int))), .any, .any, .any, .any, .any, .any, .any, .any, .any, .any, .any, .any, .any, .any, .any, .any, .any, .any, .any, .any, .any, .any, .any, .any, .any, .any, .any, .any, .any, .any, .any, .any, .any, .any, .any, .any, .any, .any, .any, .any, .any, .any, .any, .any, .any, .any, .any, .any, .any, .any, .any, .any, .any, .any, .any, .any, .any, .any, .any, .any, .any, .any, .any, .any, .any, .any, .any, .any, .any, .any, .any, .any, .any, .any, .any, .any, .any, .any, .any, .any, .any, .any, .any, .any, .any, .any, .any, .any, .any, .any, .any, .any, .any, .any, .any, .any, .any, .any, .any, .any, .any, .any, .any, .any, .any, .any, .any, .any, .any, .any, .any, .any, .any, .any, .any, .any, .any, .any, .any, .any, .any, .any, .any, .any, .any, .any, .any, .any, .any, .any, .any]) (fun j => σ ++ [.cells p.enc.cells, .cells p'.enc.cells, .cells x.enc.cells, .cells y.enc.cells]) (fun j => x.eqs.length - j) (fun j => j ≤ x.eqs.length ∧ (x.eqs.take j).map EqM.key = (y.eqs.take j).map EqM.key) 0 ?_ ?_
          · exact ⟨⟨Nat.zero_le _, rfl⟩, by simp [Wk], rfl⟩
          · rintro j ⟨hj, hjt⟩
            refine AW.seq_k fun K15 hK15 => ?_
            refine AW.regl false [76] (by rfl) fun K16 hK16 => ?_ -- region 10
            simp only [go_sem, Nat.reduceAdd, Nat.reduceEqDiff, Nat.reduceLeDiff, true_and, ProgM.enc, NodeM.enc, EqM.enc, VarM.enc, enc_one, enc_len, enc_get43, enc_get47, eqc_get81, eqc_get128, List.length_map, List.length_cons, List.all_cons, one_row, len_row, ba_beqL, List.drop_succ_cons, List.drop_zero]
            refine hK16 _ _ ?_; try clear hK16 K16
            conv => enter [5]; simp only [setL_cons, setL_nil, List.set_cons_zero, List.set_cons_succ]
            refine AW.cond rfl (fun hc76 => ?_) (fun hc76 => ?_)
            · skip
              have hj1 : j < x.eqs.length := by simpa using hc76
              have hj2 : j < y.eqs.length := by omega
              obtain ⟨a, hxj⟩ : ∃ z, z = x.eqs[j] := ⟨_, rfl⟩
              obtain ⟨b, hyj⟩ : ∃ z, z = y.eqs[j] := ⟨_, rfl⟩
              have gxj : (x.eqs.map EqM.enc)[j]? = some (.agg (rowAV 1 a.nl (a.lhs.map str) :: a.rhs.enc.cells)) := by rw [hxj, List.getElem?_map, List.getElem?_eq_getElem hj1]; rfl
              have gyj : (y.eqs.map EqM.enc)[j]? = some (.agg (rowAV 1 b.nl (b.lhs.map str) :: b.rhs.enc.cells)) := by rw [hyj, List.getElem?_map, List.getElem?_eq_getElem hj2]; rfl
              have hq : a.ok := hok.2.2.2.2.2 a (by rw [hxj]; exact mem_at hj1)
              have hla : a.lhs.length ≤ maxLen := by rw [maxLen_eq]; have := hq.1.1; omega
              refine AW.skip ?_
              refine hK15 _ _ ?_; try clear hK15 K15
              refine AW.seq_k fun K17 hK17 => ?_
              refine AW.block ?_
              refine AW.seq_k fun K18 hK18 => ?_
              refine AW.regtdf mixed false 109 (.val (.bool ((((a.lhs.length : Nat) : Int) != ((b.lhs.length : Nat) : Int)) || !((decide (a.rhs.norm = b.rhs.norm)))))) (by kernel_rfl) (by rfl) ?_ ?_ -- region 12
              · skip
                cases h93 : ((((a.lhs.length : Nat) : Int) != ((b.lhs.length : Nat) : Int)))
                · skip
                  simp only [go_sem, Nat.reduceAdd, Nat.reduceEqDiff, Nat.reduceLeDiff, true_and, ProgM.enc, NodeM.enc, EqM.enc, VarM.enc, enc_one, enc_len, enc_get43, enc_get47, eqc_get81, eqc_get128, List.length_map, List.length_cons, List.all_cons, one_row, len_row, ba_beqL, List.drop_succ_cons, List.drop_zero, at_row gxj, at_row gyj, h93]
                  refine qC.of en19 ((rsame_calls a.rhs (by have := hq.2.1; omega) b.rhs).on _).here (by rfl) ?_
                  simp only [go_sem, Nat.reduceAdd, Nat.reduceEqDiff, Nat.reduceLeDiff, true_and, ProgM.enc, NodeM.enc, EqM.enc, VarM.enc, enc_one, enc_len, enc_get43, enc_get47, eqc_get81, eqc_get128, List.length_map, List.length_cons, List.all_cons, one_row, len_row, ba_beqL, List.drop_succ_cons, List.drop_zero, at_row gxj, at_row gyj, h93]
                  try simp [upd_at, h93, ProgM.enc, NodeM.enc, EqM.enc, VarM.enc, enc_one, enc_len, enc_get43, enc_get47, eqc_get81, eqc_get128, List.length_map, List.length_cons, List.all_cons, one_row, len_row, ba_beqL, List.drop_succ_cons, List.drop_zero, at_row gxj, at_row gyj]
                · skip
                  simp only [go_sem, Nat.reduceAdd, Nat.reduceEqDiff, Nat.reduceLeDiff, true_and, ProgM.enc, NodeM.enc, EqM.enc, VarM.enc, enc_one, enc_len, enc_get43, enc_get47, eqc_get81, eqc_get128, List.length_map, List.length_cons, List.all_cons, one_row, len_row, ba_beqL, List.drop_succ_cons, List.drop_zero, at_row gxj, at_row gyj, h93]
                  try simp [upd_at, h93, ProgM.enc, NodeM.enc, EqM.enc, VarM.enc, enc_one, enc_len, enc_get43, enc_get47, eqc_get81, eqc_get128, List.length_map, List.length_cons, List.all_cons, one_row, len_row, ba_beqL, List.drop_succ_cons, List.drop_zero, at_row gxj, at_row gyj]
              conv => enter [5]; simp only [List.set_cons_zero, List.set_cons_succ]
              refine AW.cond rfl (fun hc109 => ?_) (fun hc109 => ?_)
              · skip
                refine AW.regl false [4] (by rfl) fun K20 hK20 => ?_ -- region 13
                simp only [go_sem, Nat.reduceAdd, Nat.reduceEqDiff, Nat.reduceLeDiff, true_and, ProgM.enc, NodeM.enc, EqM.enc, VarM.enc, enc_one, enc_len, enc_get43, enc_get47, eqc_get81, eqc_get128, List.length_map, List.length_cons, List.all_cons, one_row, len_row, ba_beqL, List.drop_succ_cons, List.drop_zero]
                refine hK20 _ _ ?_; try clear hK20 K20
                conv => enter [5]; simp only [setL_cons, setL_nil, List.set_cons_zero, List.set_cons_succ]
                refine AW.ret ⟨.inr rfl, _, rfl, by simp, ?_⟩ -- return 3
                refine frzB ?_
                refine (decide_eq_false ?_).symm
                show ¬ p.nodes.map NodeM.key = p'.nodes.map NodeM.key
                refine eq_at hi1 hi2 ?_
                rw [← hxi, ← hyi]
                intro e
                obtain ⟨e1, e2, e3, e4, e5⟩ := node_key.1 e
                refine eq_at hj1 hj2 ?_ e5
                rw [← hxj, ← hyj]
                intro e6
                obtain ⟨f1, f2⟩ := eq_key.1 e6
                simp [f1, f2] at hc109
              · skip
                have hQ : a.lhs.length = b.lhs.length ∧ a.rhs.norm = b.rhs.norm := by
                  simp only [Bool.or_eq_false_iff, bne_eq_false_iff_eq, Bool.not_eq_false', decide_eq_true_eq] at hc109
                  exact ⟨by omega, hc109.2⟩
                have hlab := hQ.1
                refine AW.skip ?_
                refine hK18 _ _ ?_; try clear hK18 K18
                refine AW.regl false [9] (by rfl) fun K21 hK21 => ?_ -- region 14
                simp only [go_sem, Nat.reduceAdd, Nat.reduceEqDiff, Nat.reduceLeDiff, true_and, ProgM.enc, NodeM.enc, EqM.enc, VarM.enc, enc_one, enc_len, enc_get43, enc_get47, eqc_get81, eqc_get128, List.length_map, List.length_cons, List.all_cons, one_row, len_row, ba_beqL, List.drop_succ_cons, List.drop_zero]
                refine hK21 _ _ ?_; try clear hK21 K21
                conv => enter [5]; simp only [setL_cons, setL_nil, List.set_cons_zero, List.set_cons_succ]
                refine AW.block ?_
                refine AW.loop_wk (α := Nat) (fun k => [.any, .any, (.ref σ.length 0), (.ref (σ.length + 1) 0), .any, (.val (.int .i64 ((i : Nat) : Int))), (.ref (σ.length + 2) 0), (.ref (σ.length + 3) 0), (.val (.int .i64 ((j : Nat) : Int))), (.val (.int .i64 ((k : Nat) : Int))), .any, .any, .any, .any, .any, .any, .any, .any, .any, .any, .any, .any, .any, .any, .any, .any, .any, .any, .any, .any, .any, .any, .any, .any, .any, .any, .any, .any, .any, .any, .any, .any, .any, .any, .any, .any, .any, .any, .any, .any, .any, .any, .any, .any, .any, .any, .any, .any, .any, .any, .any, .any, .any, .any, .any, .any, .any, .any, .any, .any, .any, .any, .any, .any, .any, .any, .any, .any, .any, .any, .any, .any, .any, .any, .any, .any, .any, .any, .any, .any, .any, .any, .any, .any, .any, .any, .any, .any, .any, .any, .any, .any, .any, .any, .any, .any, .any, .any, .any, .any, .any, .any, .any, .any, .any, .any, .any, .any, .any, .any, .any, .any, .any, .any, .any, .any, .any, .any, .any, .any, .any, .any, .any, .any, .any, .any, .any, .any, .any, .any]) (fun k => σ ++ [.cells p.enc.cells, .cells p'.enc.cells, .cells x.enc.cells, .cells y.enc.cells]) (fun k => a.lhs.length - k) (fun k => k ≤ a.lhs.length ∧ a.lhs.take k = b.lhs.take k) 0 ?_ ?_
                · exact ⟨⟨Nat.zero_le _, rfl⟩, by simp [Wk], rfl⟩
                · rintro k ⟨hk, hkt⟩
                  refine AW.seq_k fun K22 hK22 => ?_
                  refine AW.regl false [118] (by rfl) fun K23 hK23 => ?_ -- region 15
                  simp only [go_sem, Nat.reduceAdd, Nat.reduceEqDiff, Nat.reduceLeDiff, true_and, ProgM.enc, NodeM.enc, EqM.enc, VarM.enc, enc_one, enc_len, enc_get43, enc_get47, eqc_get81, eqc_get128, List.length_map, List.length_cons, List.all_cons, one_row, len_row, ba_beqL, List.drop_succ_cons, List.drop_zero, at_row gxj]
                  refine hK23 _ _ ?_; try clear hK23 K23
                  conv => enter [5]; simp only [setL_cons, setL_nil, List.set_cons_zero, List.set_cons_succ]
                  refine AW.cond rfl (fun hc118 => ?_) (fun hc118 => ?_)
                  · skip
                    have hk1 : k < a.lhs.length := by simpa using hc118
                    have hk2 : k < b.lhs.length := by omega
                    obtain ⟨u, hxk⟩ : ∃ z, z = a.lhs[k] := ⟨_, rfl⟩
                    obtain ⟨w, hyk⟩ : ∃ z, z = b.lhs[k] := ⟨_, rfl⟩
                    have gxk : (a.lhs.map str)[k]? = some (str u) := by rw [hxk, List.getElem?_map, List.getElem?_eq_getElem hk1]; rfl
                    have gyk : (b.lhs.map str)[k]? = some (str w) := by rw [hyk, List.getElem?_map, List.getElem?_eq_getElem hk2]; rfl
                    refine AW.skip ?_
                    refine hK22 _ _ ?_; try clear hK22 K22
                    refine AW.seq_k fun K24 hK24 => ?_
                    refine AW.block ?_
                    refine AW.regdl mixed false [139] (by kernel_rfl) (by rfl) fun K25 hK25 => ?_ -- region 17
                    simp only [go_sem, Nat.reduceAdd, Nat.reduceEqDiff, Nat.reduceLeDiff, true_and, ProgM.enc, NodeM.enc, EqM.enc, VarM.enc, enc_one, enc_len, enc_get43, enc_get47, eqc_get81, eqc_get128, List.length_map, List.length_cons, List.all_cons, one_row, len_row, ba_beqL, List.drop_succ_cons, List.drop_zero, at_row gxj, at_row gyj, at_row gxk, at_row gyk, neq_str]
                    refine hK25 _ ?_; try clear hK25 K25
                    conv => enter [5]; simp only [setL_cons, setL_nil, List.set_cons_zero, List.set_cons_succ]
                    refine AW.cond rfl (fun hc139 => ?_) (fun hc139 => ?_)
                    · skip
                      refine AW.regl false [4] (by rfl) fun K26 hK26 => ?_ -- region 18
                      simp only [go_sem, Nat.reduceAdd, Nat.reduceEqDiff, Nat.reduceLeDiff, true_and, ProgM.enc, NodeM.enc, EqM.enc, VarM.enc, enc_one, enc_len, enc_get43, enc_get47, eqc_get81, eqc_get128, List.length_map, List.length_cons, List.all_cons, one_row, len_row, ba_beqL, List.drop_succ_cons, List.drop_zero]
                      refine hK26 _ _ ?_; try clear hK26 K26
                      conv => enter [5]; simp only [setL_cons, setL_nil, List.set_cons_zero, List.set_cons_succ]
                      refine AW.ret ⟨.inr rfl, _, rfl, by simp, ?_⟩ -- return 4
                      refine frzB ?_
                      refine (decide_eq_false ?_).symm
                      show ¬ p.nodes.map NodeM.key = p'.nodes.map NodeM.key
                      refine eq_at hi1 hi2 ?_
                      rw [← hxi, ← hyi]
                      intro e
                      obtain ⟨e1, e2, e3, e4, e5⟩ := node_key.1 e
                      refine eq_at hj1 hj2 ?_ e5
                      rw [← hxj, ← hyj]
                      intro e6
                      obtain ⟨f1, f2⟩ := eq_key.1 e6
                      refine eq_at (key := fun s : ByteArray => s) hk1 hk2 ?_ (by simp only [List.map_id']; exact f1)
                      rw [← hxk, ← hyk]
                      exact not_dec hc139
                    · skip
                      refine AW.skip ?_
                      refine hK24 _ _ ?_; try clear hK24 K24
                      refine AW.lastl false [9] (by rfl) fun K hK => ?_ -- region 16
                      simp only [go_sem, Nat.reduceAdd, Nat.reduceEqDiff, Nat.reduceLeDiff, true_and, ProgM.enc, NodeM.enc, EqM.enc, VarM.enc, enc_one, enc_len, enc_get43, enc_get47, eqc_get81, eqc_get128, List.length_map, List.length_cons, List.all_cons, one_row, len_row, ba_beqL, List.drop_succ_cons, List.drop_zero]
                      refine hK _ _ fun env' hw => ?_
                      simp only [setL_cons, setL_nil, List.set_cons_zero, List.set_cons_succ] at hw
                      refine ⟨k + 1, by omega, ⟨by omega, stp hk1 hk2 hkt (by rw [← hxk, ← hyk]; exact dec_of hc139)⟩, ?_, rfl⟩
                      refine hw.trans ?_
                      simp [Wk, wrap_succ hk1 hla]
                      try omega
                  · skip
                    have hk1 : k = a.lhs.length := by
                      have : ¬ k < a.lhs.length := by simpa using hc118
                      omega
                    have hL : a.lhs = b.lhs := by
                      rw [List.take_of_length_le (by omega), List.take_of_length_le (by omega)] at hkt
                      exact hkt
                    refine AW.exit ?_
                    refine hK17 _ _ ?_; try clear hK17 K17
                    refine AW.lastl false [8] (by rfl) fun K hK => ?_ -- region 11
                    simp only [go_sem, Nat.reduceAdd, Nat.reduceEqDiff, Nat.reduceLeDiff, true_and, ProgM.enc, NodeM.enc, EqM.enc, VarM.enc, enc_one, enc_len, enc_get43, enc_get47, eqc_get81, eqc_get128, List.length_map, List.length_cons, List.all_cons, one_row, len_row, ba_beqL, List.drop_succ_cons, List.drop_zero]
                    refine hK _ _ fun env' hw => ?_
                    simp only [setL_cons, setL_nil, List.set_cons_zero, List.set_cons_succ] at hw
                    refine ⟨j + 1, by omega, ⟨by omega, eq_step hj1 hj2 hjt (by rw [← hxj, ← hyj]; exact eq_key.2 ⟨hL, hQ.2⟩)⟩, ?_, rfl⟩
                    refine hw.trans ?_
                    simp [Wk, wrap_succ hj1 hle]
                    try omega
            · skip
              have hj1 : j = x.eqs.length := by
                have : ¬ j < x.eqs.length := by simpa using hc76
                omega
              have hE := eq_end (by omega) hlq hjt
              refine AW.exit ?_
              refine hK9 _ _ ?_; try clear hK9 K9
              refine AW.lastl false [5] (by rfl) fun K hK => ?_ -- region 5
              simp only [go_sem, Nat.reduceAdd, Nat.reduceEqDiff, Nat.reduceLeDiff, true_and, ProgM.enc, NodeM.enc, EqM.enc, VarM.enc, enc_one, enc_len, enc_get43, enc_get47, eqc_get81, eqc_get128, List.length_map, List.length_cons, List.all_cons, one_row, len_row, ba_beqL, List.drop_succ_cons, List.drop_zero]
              refine hK _ _ fun env' hw => ?_
              simp only [setL_cons, setL_nil, List.set_cons_zero, List.set_cons_succ] at hw
              refine ⟨i + 1, by omega, ⟨by omega, eq_step hi1 hi2 hit (by rw [← hxi, ← hyi]; exact node_key.2 ⟨hN.1, hN.2.1, hN.2.2.1, hN.2.2.2.1, hE⟩)⟩, ?_, by first | rfl | (simp [List.take_append, List.take_of_length_le]; done) | (simp [List.take_append, List.take_of_length_le]; repeat' constructor)⟩
              refine hw.trans ?_
              simp [Wk, wrap_succ hi1 hl]
              try omega
      · skip
        have hi1 : i = p.nodes.length := by
          have : ¬ i < p.nodes.length := by simpa using hc21
          omega
        have hZ := eq_end (by omega) hln hit
        refine AW.exit ?_
        refine hK5 _ _ ?_; try clear hK5 K5
        refine AW.regl false [4] (by rfl) fun K27 hK27 => ?_ -- region 19
        simp only [go_sem, Nat.reduceAdd, Nat.reduceEqDiff, Nat.reduceLeDiff, true_and, ProgM.enc, NodeM.enc, EqM.enc, VarM.enc, enc_one, enc_len, enc_get43, enc_get47, eqc_get81, eqc_get128, List.length_map, List.length_cons, List.all_cons, one_row, len_row, ba_beqL, List.drop_succ_cons, List.drop_zero]
        refine hK27 _ _ ?_; try clear hK27 K27
        conv => enter [5]; simp only [setL_cons, setL_nil, List.set_cons_zero, List.set_cons_succ]
        refine AW.ret ⟨.inr rfl, _, rfl, by simp, ?_⟩ -- return 5
        refine frzB ?_
        exact (decide_eq_true (show p.key = p'.key from hZ)).symm

set_option maxRecDepth 100000 in
theorem aawake_calls (hΓ : Words Γ) : APure prog Γ 23 [] (.val (.bool true)) := by
  refine APure.of func23 rfl fun σ => ?_
  simp only [ntmps23, List.length_cons, List.length_nil, Nat.reduceAdd, Nat.reduceSub, List.replicate_succ, List.replicate_zero, List.cons_append, List.nil_append]
  have hd23 := depth_calls (Γ := Γ) aw2 aw2_size
  have hs23 := size_calls (Γ := Γ) aw2 aw2_size
  have hr23 := right_calls hΓ aw2 aw2_size aw2_fits
  rw [aw2_enc, aw1_enc] at hd23 hs23 hr23
  refine AW.regl false [0] (by rfl) fun K1 hK1 => ?_ -- region 0
  simp only [go_sem, Nat.reduceAdd, Nat.reduceEqDiff, Nat.reduceLeDiff, true_and]
  refine hK1 _ _ ?_; try clear hK1 K1
  conv => enter [5]; simp only [setL_cons, setL_nil, List.set_cons_zero, List.set_cons_succ]
  refine AW.regl false [1] (by rfl) fun K2 hK2 => ?_ -- region 1
  simp only [go_sem, Nat.reduceAdd, Nat.reduceEqDiff, Nat.reduceLeDiff, true_and]
  refine hK2 _ _ ?_; try clear hK2 K2
  conv => enter [5]; simp only [setL_cons, setL_nil, List.set_cons_zero, List.set_cons_succ, upd_none, upd_at]
  refine AW.regl false [2] (by rfl) fun K3 hK3 => ?_ -- region 2
  simp only [go_sem, Nat.reduceAdd, Nat.reduceEqDiff, Nat.reduceLeDiff, true_and, row2_45]
  refine hK3 _ _ ?_; try clear hK3 K3
  conv => enter [5]; simp only [setL_cons, setL_nil, List.set_cons_zero, List.set_cons_succ, upd_none, upd_at]
  refine AW.regcuts fun K4 hK4 => ?_ -- region 3
  refine AOps.cut false 8 15 (.val (.bool ((((aw2.depth : Nat) : Int) == 2) && (((aw2.size : Nat) : Int) == 3)))) (by rfl) ?_ ?_
  · skip
    cases h10 : ((((aw2.depth : Nat) : Int) == 2))
    · skip
      simp only [go_sem, Nat.reduceAdd, Nat.reduceEqDiff, Nat.reduceLeDiff, true_and, List.take_succ_cons, List.take_zero, h10]
      refine sC.of en15 (hd23.on _).here (by rfl) ?_
      simp only [go_sem, Nat.reduceAdd, Nat.reduceEqDiff, Nat.reduceLeDiff, true_and, List.take_succ_cons, List.take_zero, h10]
      try simp [upd_at, h10]
    · skip
      simp only [go_sem, Nat.reduceAdd, Nat.reduceEqDiff, Nat.reduceLeDiff, true_and, List.take_succ_cons, List.take_zero, h10]
      refine sC.of en15 (hd23.on _).here (by rfl) ?_
      simp only [go_sem, Nat.reduceAdd, Nat.reduceEqDiff, Nat.reduceLeDiff, true_and, List.take_succ_cons, List.take_zero, h10]
      refine sC.of en17 (hs23.on _).here (by rfl) ?_
      simp only [go_sem, Nat.reduceAdd, Nat.reduceEqDiff, Nat.reduceLeDiff, true_and, List.take_succ_cons, List.take_zero, h10]
      try simp [upd_at, h10]
  simp only [List.drop_succ_cons, List.drop_zero, List.set_cons_zero, List.set_cons_succ]
  refine AOps.cut false 4 19 (.val (.bool (((((aw2.depth : Nat) : Int) == 2) && (((aw2.size : Nat) : Int) == 3)) && (aw2.pre.all E.single && decide ((aw2.depth : Int) ≤ 200))))) (by rfl) ?_ ?_
  · skip
    cases h15 : (((((aw2.depth : Nat) : Int) == 2) && (((aw2.size : Nat) : Int) == 3)))
    · skip
      simp only [go_sem, Nat.reduceAdd, Nat.reduceEqDiff, Nat.reduceLeDiff, true_and, List.take_succ_cons, List.take_zero, h15]
      try simp [upd_at, h15]
    · skip
      simp only [go_sem, Nat.reduceAdd, Nat.reduceEqDiff, Nat.reduceLeDiff, true_and, List.take_succ_cons, List.take_zero, h15]
      refine sC.of en13 (hr23.on _).here (by rfl) ?_
      simp only [go_sem, Nat.reduceAdd, Nat.reduceEqDiff, Nat.reduceLeDiff, true_and, List.take_succ_cons, List.take_zero, h15]
      try simp [upd_at, h15]
  simp only [List.drop_succ_cons, List.drop_zero, List.set_cons_zero, List.set_cons_succ]
  refine AOps.cut false 4 23 (.val (.bool ((((((aw2.depth : Nat) : Int) == 2) && (((aw2.size : Nat) : Int) == 3)) && (aw2.pre.all E.single && decide ((aw2.depth : Int) ≤ 200))) && !((nameM ⟨#[112, 114, 101]⟩))))) (by rfl) ?_ ?_
  · skip
    cases h19 : ((((((aw2.depth : Nat) : Int) == 2) && (((aw2.size : Nat) : Int) == 3)) && (aw2.pre.all E.single && decide ((aw2.depth : Int) ≤ 200))))
    · skip
      simp only [go_sem, Nat.reduceAdd, Nat.reduceEqDiff, Nat.reduceLeDiff, true_and, List.take_succ_cons, List.take_zero, h19]
      try simp [upd_at, h19]
    · skip
      simp only [go_sem, Nat.reduceAdd, Nat.reduceEqDiff, Nat.reduceLeDiff, true_and, List.take_succ_cons, List.take_zero, h19]
      refine sC.of en43 ((name_calls hΓ ⟨#[112, 114, 101]⟩ (by decide)).on _).here (by rfl) ?_
      simp only [go_sem, Nat.reduceAdd, Nat.reduceEqDiff, Nat.reduceLeDiff, true_and, List.take_succ_cons, List.take_zero, h19]
      try simp [upd_at, h19]
  simp only [List.drop_succ_cons, List.drop_zero, List.set_cons_zero, List.set_cons_succ]
  refine AOps.cut false 4 0 (.val (.bool (((((((aw2.depth : Nat) : Int) == 2) && (((aw2.size : Nat) : Int) == 3)) && (aw2.pre.all E.single && decide ((aw2.depth : Int) ≤ 200))) && !((nameM ⟨#[112, 114, 101]⟩))) && (nameM ⟨#[80, 114, 101]⟩)))) (by rfl) ?_ ?_
  · skip
    cases h23 : (((((((aw2.depth : Nat) : Int) == 2) && (((aw2.size : Nat) : Int) == 3)) && (aw2.pre.all E.single && decide ((aw2.depth : Int) ≤ 200))) && !((nameM ⟨#[112, 114, 101]⟩))))
    · skip
      simp only [go_sem, Nat.reduceAdd, Nat.reduceEqDiff, Nat.reduceLeDiff, true_and, List.take_succ_cons, List.take_zero, h23]
      try simp [upd_at, h23]
    · skip
      simp only [go_sem, Nat.reduceAdd, Nat.reduceEqDiff, Nat.reduceLeDiff, true_and, List.take_succ_cons, List.take_zero, h23]
      refine sC.of en43 ((name_calls hΓ ⟨#[80, 114, 101]⟩ (by decide)).on _).here (by rfl) ?_
      simp only [go_sem, Nat.reduceAdd, Nat.reduceEqDiff, Nat.reduceLeDiff, true_and, List.take_succ_cons, List.take_zero, h23]
      try simp [upd_at, h23]
  simp only [List.drop_succ_cons, List.drop_zero, List.set_cons_zero, List.set_cons_succ]
  refine AOps.nil (hK4 _ _ ?_); try clear hK4 K4
  refine AW.ret ⟨.inr rfl, _, rfl, by simp, ?_⟩ -- return 1
  refine frzB ?_
  exact aw_true
end A
end Go.Proofs.Tryd
