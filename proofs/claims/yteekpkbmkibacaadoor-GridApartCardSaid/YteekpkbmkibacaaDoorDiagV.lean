import Derived.Test.YteekpkbmkibacaaDoorDiagK
import Derived.Test.YteekpkbmkibacaaDoorDiagK
/-! The files of the document as those of the program. -/
namespace Go.Proofs.Tryd
set_option linter.unusedSimpArgs false
set_option linter.unusedVariables false
open Go Go.Proofs.Ev
variable {Γ : List (Nat × List AV)}
set_option maxRecDepth 100000 in
theorem osource_calls (s : Src) : APure prog Γ 55 [s.enc] s.enc := by
  refine APure.of func55 rfl fun σ => ?_
  simp only [ntmps55, List.length_cons, List.length_nil, Nat.reduceAdd, Nat.reduceSub, List.replicate_succ, List.replicate_zero, List.cons_append, List.nil_append]
  refine AW.regl false [1, 2] (by rfl) fun K1 hK1 => ?_ -- region 0
  simp only [go_sem, Nat.reduceAdd, Nat.reduceEqDiff, Nat.reduceLeDiff, true_and, src_all, Src.enc]
  refine hK1 _ _ ?_; try clear hK1 K1
  conv => enter [5]; simp only [setL_cons, setL_nil, List.set_cons_zero, List.set_cons_succ]
  refine AW.regl false [] (by rfl) fun K2 hK2 => ?_ -- region 1
  simp only [go_sem, Nat.reduceAdd, Nat.reduceEqDiff, Nat.reduceLeDiff, true_and, src_all, Src.enc]
  refine hK2 _ _ ?_; try clear hK2 K2
  conv => enter [5]; simp only [setL_cons, setL_nil, List.set_cons_zero, List.set_cons_succ, upd_none, upd_at]
  refine AW.ret ⟨.inr rfl, _, ret_cell (v := s.enc) rfl ((load_app σ _ 26 1 0).trans (by simp only [go_sem, aLoadAt] <;> rfl)), by simp, ?_⟩ -- return 1
  exact .keep rfl

set_option maxRecDepth 100000 in
theorem oblock_calls (b : Blk) (hb : b.src.length ≤ 40) : APure prog Γ 30 [b.enc] b.own.enc := by
  refine APure.of func30 rfl fun σ => ?_
  simp only [ntmps30, List.length_cons, List.length_nil, Nat.reduceAdd, Nat.reduceSub, List.replicate_succ, List.replicate_zero, List.cons_append, List.nil_append]
  refine AW.regl false [1, 2] (by rfl) fun K1 hK1 => ?_ -- region 0
  simp only [go_sem, Nat.reduceAdd, Nat.reduceEqDiff, Nat.reduceLeDiff, true_and, blk_all, List.length_map, rsrc_get]
  refine hK1 _ _ ?_; try clear hK1 K1
  conv => enter [5]; simp only [setL_cons, setL_nil, List.set_cons_zero, List.set_cons_succ]
  refine AW.regl false [3] (by rfl) fun K2 hK2 => ?_ -- region 1
  simp only [go_sem, Nat.reduceAdd, Nat.reduceEqDiff, Nat.reduceLeDiff, true_and, blk_all, List.length_map, rsrc_get, Blk.enc]
  refine hK2 _ _ ?_; try clear hK2 K2
  conv => enter [5]; simp only [setL_cons, setL_nil, List.set_cons_zero, List.set_cons_succ, upd_none, upd_at]
  refine AW.cap 2 ?_
  simp only [List.append_assoc, List.cons_append, List.nil_append]
  refine AW.own (σ.length + 2) 6 (σ.length + 3) ((app_get σ _ 2).trans rfl) rfl ((app_get σ _ 3).trans rfl) (by decide) ?_
  simp only [app_set, List.set_cons_zero, List.set_cons_succ]
  refine AW.seq_k fun K3 hK3 => ?_
  refine AW.regl false [4] (by rfl) fun K4 hK4 => ?_ -- region 2
  simp only [go_sem, Nat.reduceAdd, Nat.reduceEqDiff, Nat.reduceLeDiff, true_and, blk_all, List.length_map, rsrc_get]
  refine hK4 _ _ ?_; try clear hK4 K4
  conv => enter [5]; simp only [setL_cons, setL_nil, List.set_cons_zero, List.set_cons_succ]
  refine AW.block ?_
  refine AW.loop_wk (α := Nat) (fun j => [.any, (.ref σ.length 0), (.ref (σ.length + 1) 0), (.ref (σ.length + 2) 0), (.val (.int .i64 (j : Nat))), .any, .any, .any, .any, .any, .any, .any, .any, .any, .any, .any, .any, .any, .any, .any, .any, .any, .any, .any, .any, .any, .any, .any, .any, .any, .any, .any, .any, .any, .any, .any, .any]) (fun j => σ ++ [.cells b.enc.cells, .cells [i64 0, i64 0, i64 0, i64 0, .val (.int .i32 0), .val (.int .i32 0), .nilsl], .cells [i64 b.kind, i64 b.op, i64 b.sub, i64 b.n, .val (.int .i32 b.x), .val (.int .i32 b.y), .slo true 2 ((b.src.take j).map Src.enc) (σ.length + 3)], .cap j 2]) (fun j => b.src.length - j) (fun j => j ≤ b.src.length) 0 ?_ ?_
  · exact ⟨Nat.zero_le _, by simp [Wk], rfl⟩
  · intro j hj
    refine AW.seq_k fun K5 hK5 => ?_
    refine AW.regl false [22] (by rfl) fun K6 hK6 => ?_ -- region 3
    simp only [go_sem, Nat.reduceAdd, Nat.reduceEqDiff, Nat.reduceLeDiff, true_and, blk_all, List.length_map, rsrc_get, Blk.enc]
    refine hK6 _ _ ?_; try clear hK6 K6
    conv => enter [5]; simp only [setL_cons, setL_nil, List.set_cons_zero, List.set_cons_succ]
    refine AW.cond rfl (fun hc22 => ?_) (fun hc22 => ?_)
    · skip
      have hj1 : j < b.src.length := by simpa using hc22
      obtain ⟨s, hs⟩ : ∃ z, z = b.src[j] := ⟨_, rfl⟩
      have hy : (b.src.map Src.enc)[j]? = some s.enc := by rw [hs]; simp [hj1]
      have hap := app_at (en := Src.enc) hj1 (by omega) true 2 16 (by decide)
      have htk : (b.src.take j).map Src.enc ++ [s.enc] = (b.src.take (j + 1)).map Src.enc := by rw [hs]; exact take_at Src.enc hj1
      refine AW.skip ?_
      refine hK5 _ _ ?_; try clear hK5 K5
      refine AW.seq_k fun K7 hK7 => ?_
      refine AW.block ?_
      refine AW.lastml mixed false [] 9 (by kernel_rfl) (by kernel_rfl) (by rfl) fun K hK => ?_ -- region 5
      simp only [go_sem, Nat.reduceAdd, Nat.reduceEqDiff, Nat.reduceLeDiff, true_and, blk_all, List.length_map, rsrc_get, Blk.enc, at_row hy, hap, row1_70 _ _ (src_len s) (src_all s), htk]
      refine qC.of en55 ((osource_calls s).on _).here (by rfl) ?_
      simp only [go_sem, Nat.reduceAdd, Nat.reduceEqDiff, Nat.reduceLeDiff, true_and, blk_all, List.length_map, rsrc_get, Blk.enc, at_row hy, hap, row1_70 _ _ (src_len s) (src_all s), htk]
      refine hK _ _ fun env' hw => ?_
      simp only [setL_cons, setL_nil, List.set_cons_zero, List.set_cons_succ, upd_none, upd_at] at hw
      refine hK7 _ _ (AW.weaken hw ?_); clear hw; try clear hK7 K7
      refine AW.lastl false [4] (by rfl) fun K hK => ?_ -- region 4
      simp only [go_sem, Nat.reduceAdd, Nat.reduceEqDiff, Nat.reduceLeDiff, true_and, blk_all, List.length_map, rsrc_get]
      refine hK _ _ fun env' hw => ?_
      simp only [setL_cons, setL_nil, List.set_cons_zero, List.set_cons_succ] at hw
      refine ⟨j + 1, by omega, by omega, ?_, rfl⟩
      refine hw.trans ?_
      simp [Wk, wrap_succ (show j < 1000 by omega) (by decide)]
    · skip
      have hj1 : ¬ j < b.src.length := by simpa using hc22
      refine AW.exit ?_
      refine hK3 _ _ ?_; try clear hK3 K3
      refine AW.regl false [] (by rfl) fun K8 hK8 => ?_ -- region 6
      simp only [go_sem, Nat.reduceAdd, Nat.reduceEqDiff, Nat.reduceLeDiff, true_and, blk_all, List.length_map, rsrc_get]
      refine hK8 _ _ ?_; try clear hK8 K8
      conv => enter [5]; simp only [setL_cons, setL_nil, List.set_cons_zero, List.set_cons_succ, upd_none, upd_at]
      have htk : b.src.take j = b.src := List.take_of_length_le (by omega)
      rw [htk]
      refine AW.ret ⟨.inr rfl, _, ret_cell (v := .agg [i64 b.kind, i64 b.op, i64 b.sub, i64 b.n, .val (.int .i32 b.x), .val (.int .i32 b.y), .slo true 2 (b.src.map Src.enc) (σ.length + 3)]) rfl ((load_app σ _ 72 1 0).trans (by simp only [go_sem, aLoadAt] <;> rfl)), by simp, ?_⟩
      exact .agg (.cons (.keep rfl) (.cons (.keep rfl) (.cons (.keep rfl) (.cons (.keep rfl) (.cons (.keep rfl) (.cons (.keep rfl) (.cons (frz_row src_bel (by omega) b.src) .nil)))))))

set_option maxRecDepth 100000 in
set_option maxHeartbeats 1000000 in
theorem own_calls (f : FileM) (hs : f.small) : APure prog Γ 25 [f.enc] f.own.enc := by
  refine APure.of func25 rfl fun σ => ?_
  simp only [ntmps25, List.length_cons, List.length_nil, Nat.reduceAdd, Nat.reduceSub, List.replicate_succ, List.replicate_zero, List.cons_append, List.nil_append]
  refine AW.regl false [1, 2] (by rfl) fun K1 hK1 => ?_ -- region 0
  simp only [go_sem, Nat.reduceAdd, Nat.reduceEqDiff, Nat.reduceLeDiff, true_and, file_all, dgm_all, blk_all, List.length_map, rsrc_get, rblk_get, rdgm_get]
  refine hK1 _ _ ?_; try clear hK1 K1
  conv => enter [5]; simp only [setL_cons, setL_nil, List.set_cons_zero, List.set_cons_succ]
  refine AW.regl false [3] (by rfl) fun K2 hK2 => ?_ -- region 1
  simp only [go_sem, Nat.reduceAdd, Nat.reduceEqDiff, Nat.reduceLeDiff, true_and, file_all, dgm_all, blk_all, List.length_map, rsrc_get, rblk_get, rdgm_get]
  refine hK2 _ _ ?_; try clear hK2 K2
  conv => enter [5]; simp only [setL_cons, setL_nil, List.set_cons_zero, List.set_cons_succ]
  refine AW.cap 4 ?_
  simp only [List.append_assoc, List.cons_append, List.nil_append]
  refine AW.own (σ.length + 2) 0 (σ.length + 3) ((app_get σ _ 2).trans rfl) rfl ((app_get σ _ 3).trans rfl) (by decide) ?_
  simp only [app_set, List.set_cons_zero, List.set_cons_succ]
  refine AW.seq_k fun K3 hK3 => ?_
  refine AW.regl false [4] (by rfl) fun K4 hK4 => ?_ -- region 2
  simp only [go_sem, Nat.reduceAdd, Nat.reduceEqDiff, Nat.reduceLeDiff, true_and, file_all, dgm_all, blk_all, List.length_map, rsrc_get, rblk_get, rdgm_get]
  refine hK4 _ _ ?_; try clear hK4 K4
  conv => enter [5]; simp only [setL_cons, setL_nil, List.set_cons_zero, List.set_cons_succ]
  refine AW.block ?_
  refine AW.loop_dr (α := Nat) (fun i => [.any, (.ref σ.length 0), (.ref (σ.length + 1) 0), (.ref (σ.length + 2) 0), (.val (.int .i64 (i : Nat))), .any, .any, .any, .any, .any, .any, .any, .any, .any, .any, .any, .any, .any, .any, .any, .any, .any, .any, .any, .any, .any, .any, .any, .any, .any, .any, .any, .any, .any, .any, .any, .any, .any, .any, .any, .any, .any, .any, .any, .any, .any, .any, .any, .any, .any, .any, .any, .any, .any, .any, .any, .any, .any, .any, .any, .any, .any, .any, .any, .any, .any, .any, .any, .any, .any, .any, .any, .any, .any, .any, .any, .any, .any, .any, .any, .any, .any, .any, .any, .any, .any, .any, .any, .any, .any, .any, .any, .any, .any, .any, .any, .any, .any, .any, .any, .any, .any, .any, .any, .any, .any, .any, .any, .any, .any]) (fun i => σ ++ [.cells f.enc.cells, .cells [.nilsl], .cells [.slo true 4 ((f.ds.take i).map (fun d : Dgm => d.own.enc)) (σ.length + 3)], .cap i 4]) (fun i => f.ds.length - i) (fun i => i ≤ f.ds.length) 0 ?_ ?_ ?_
  · exact ⟨Nat.zero_le _, by simp [Wk], rfl⟩
  · refine fun y _ => ⟨by simp [belL, AV.bel], bel_app σ fun a ha => ?_⟩
    simp only [List.mem_cons, List.not_mem_nil, or_false] at ha
    simp only [List.length_append, List.length_cons, List.length_nil]
    rcases ha with rfl | rfl | rfl | rfl
    · exact file_bel f _
    · rfl
    · simp only [AO.bel, belL, AV.bel, Bool.and_true, Bool.and_eq_true, decide_eq_true_eq]
      exact ⟨by omega, belL_map _ _ fun x _ => dgm_bel x.own _⟩
    · rfl
  · intro i hi
    refine AW.seq_k fun K5 hK5 => ?_
    refine AW.regl false [14] (by rfl) fun K6 hK6 => ?_ -- region 3
    simp only [go_sem, Nat.reduceAdd, Nat.reduceEqDiff, Nat.reduceLeDiff, true_and, file_all, dgm_all, blk_all, List.length_map, rsrc_get, rblk_get, rdgm_get, FileM.enc]
    refine hK6 _ _ ?_; try clear hK6 K6
    conv => enter [5]; simp only [setL_cons, setL_nil, List.set_cons_zero, List.set_cons_succ]
    refine AW.cond rfl (fun hc14 => ?_) (fun hc14 => ?_)
    · skip
      have hi1 : i < f.ds.length := by simpa using hc14
      obtain ⟨d, hd⟩ : ∃ z, z = f.ds[i] := ⟨_, rfl⟩
      have hx : (f.ds.map Dgm.enc)[i]? = some d.enc := by rw [hd]; simp [hi1]
      obtain ⟨k1, k2, k3, k4, k5⟩ := hs.2 d (by rw [hd]; exact List.getElem_mem hi1)
      have hs1 := hs.1
      refine AW.skip ?_
      refine hK5 _ _ ?_; try clear hK5 K5
      refine AW.seq_k fun K7 hK7 => ?_
      refine AW.block ?_
      refine AW.regl false [5] (by rfl) fun K8 hK8 => ?_ -- region 5
      simp only [go_sem, Nat.reduceAdd, Nat.reduceEqDiff, Nat.reduceLeDiff, true_and, file_all, dgm_all, blk_all, List.length_map, rsrc_get, rblk_get, rdgm_get, FileM.enc, at_row hx]
      refine hK8 _ _ ?_; try clear hK8 K8
      conv => enter [5]; simp only [setL_cons, setL_nil, List.set_cons_zero, List.set_cons_succ, upd_none, upd_at]
      refine AW.regl false [6] (by rfl) fun K9 hK9 => ?_ -- region 6
      simp only [go_sem, Nat.reduceAdd, Nat.reduceEqDiff, Nat.reduceLeDiff, true_and, file_all, dgm_all, blk_all, List.length_map, rsrc_get, rblk_get, rdgm_get, dgm_cells d]
      refine hK9 _ _ ?_; try clear hK9 K9
      conv => enter [5]; simp only [setL_cons, setL_nil, List.set_cons_zero, List.set_cons_succ, upd_none, upd_at]
      refine AW.cap 2 ?_
      refine AW.cap 4 ?_
      refine AW.cap 7 ?_
      simp only [List.append_assoc, List.cons_append, List.nil_append]
      refine AW.own (σ.length + 5) 1 (σ.length + 6) ((app_get σ _ 5).trans rfl) rfl ((app_get σ _ 6).trans rfl) (by decide) ?_
      simp only [app_set, List.set_cons_zero, List.set_cons_succ]
      refine AW.own (σ.length + 5) 2 (σ.length + 7) ((app_get σ _ 5).trans rfl) rfl ((app_get σ _ 7).trans rfl) (by decide) ?_
      simp only [app_set, List.set_cons_zero, List.set_cons_succ]
      refine AW.own (σ.length + 5) 3 (σ.length + 8) ((app_get σ _ 5).trans rfl) rfl ((app_get σ _ 8).trans rfl) (by decide) ?_
      simp only [app_set, List.set_cons_zero, List.set_cons_succ]
      refine AW.seq_k fun K10 hK10 => ?_
      refine AW.regl false [7] (by rfl) fun K11 hK11 => ?_ -- region 7
      simp only [go_sem, Nat.reduceAdd, Nat.reduceEqDiff, Nat.reduceLeDiff, true_and, file_all, dgm_all, blk_all, List.length_map, rsrc_get, rblk_get, rdgm_get]
      refine hK11 _ _ ?_; try clear hK11 K11
      conv => enter [5]; simp only [setL_cons, setL_nil, List.set_cons_zero, List.set_cons_succ]
      refine AW.block ?_
      refine AW.loop_wk (α := Nat) (fun j => [.any, (.ref σ.length 0), (.ref (σ.length + 1) 0), (.ref (σ.length + 2) 0), (.val (.int .i64 (i : Nat))), (.ref (σ.length + 4) 0), (.ref (σ.length + 5) 0), (.val (.int .i64 (j : Nat))), .any, .any, .any, .any, .any, .any, .any, .any, .any, .any, .any, .any, .any, .any, .any, .any, .any, .any, .any, .any, .any, .any, .any, .any, .any, .any, .any, .any, .any, .any, .any, .any, .any, .any, .any, .any, .any, .any, .any, .any, .any, .any, .any, .any, .any, .any, .any, .any, .any, .any, .any, .any, .any, .any, .any, .any, .any, .any, .any, .any, .any, .any, .any, .any, .any, .any, .any, .any, .any, .any, .any, .any, .any, .any, .any, .any, .any, .any, .any, .any, .any, .any, .any, .any, .any, .any, .any, .any, .any, .any, .any, .any, .any, .any, .any, .any, .any, .any, .any, .any, .any, .any]) (fun j => σ ++ [.cells f.enc.cells, .cells [.nilsl], .cells [.slo true 4 ((f.ds.take i).map (fun d : Dgm => d.own.enc)) (σ.length + 3)], .cap i 4, .cells d.enc.cells, .cells [str d.name, .slo true 2 ((d.ins.take j).map PortM.enc) (σ.length + 6), .slo true 4 ([]) (σ.length + 7), .slo true 7 ([]) (σ.length + 8)], .cap j 2, .cap 0 4, .cap 0 7]) (fun j => d.ins.length - j) (fun j => j ≤ d.ins.length) 0 ?_ ?_
      · exact ⟨Nat.zero_le _, by simp [Wk], rfl⟩
      · intro j hj
        refine AW.seq_k fun K12 hK12 => ?_
        refine AW.regl false [29] (by rfl) fun K13 hK13 => ?_ -- region 8
        simp only [go_sem, Nat.reduceAdd, Nat.reduceEqDiff, Nat.reduceLeDiff, true_and, file_all, dgm_all, blk_all, List.length_map, rsrc_get, rblk_get, rdgm_get, dgm_cells d]
        refine hK13 _ _ ?_; try clear hK13 K13
        conv => enter [5]; simp only [setL_cons, setL_nil, List.set_cons_zero, List.set_cons_succ]
        refine AW.cond rfl (fun hc29 => ?_) (fun hc29 => ?_)
        · skip
          have hj1 : j < d.ins.length := by simpa using hc29
          obtain ⟨u, hu⟩ : ∃ z, z = d.ins[j] := ⟨_, rfl⟩
          have hy : (d.ins.map PortM.enc)[j]? = some u.enc := by rw [hu]; simp [hj1]
          have hap := app_at (en := PortM.enc) hj1 (by omega) true 2 24 (by decide)
          have htk : (d.ins.take j).map PortM.enc ++ [.agg [str u.name, i64 u.type]] = (d.ins.take (j + 1)).map PortM.enc := by rw [hu]; exact take_at PortM.enc hj1
          refine AW.skip ?_
          refine hK12 _ _ ?_; try clear hK12 K12
          refine AW.seq_k fun K14 hK14 => ?_
          refine AW.block ?_
          refine AW.lastml mixed false [] 16 (by kernel_rfl) (by kernel_rfl) (by rfl) fun K hK => ?_ -- region 10
          simp only [go_sem, Nat.reduceAdd, Nat.reduceEqDiff, Nat.reduceLeDiff, true_and, file_all, dgm_all, blk_all, List.length_map, rsrc_get, rblk_get, rdgm_get, dgm_cells d, at_row hy, hap, PortM.enc, row1_24 _ _ (port_len u) (port_all u), htk]
          refine hK _ _ fun env' hw => ?_
          simp only [setL_cons, setL_nil, List.set_cons_zero, List.set_cons_succ, upd_none, upd_at] at hw
          refine hK14 _ _ (AW.weaken hw ?_); clear hw; try clear hK14 K14
          refine AW.lastl false [7] (by rfl) fun K hK => ?_ -- region 9
          simp only [go_sem, Nat.reduceAdd, Nat.reduceEqDiff, Nat.reduceLeDiff, true_and, file_all, dgm_all, blk_all, List.length_map, rsrc_get, rblk_get, rdgm_get]
          refine hK _ _ fun env' hw => ?_
          simp only [setL_cons, setL_nil, List.set_cons_zero, List.set_cons_succ] at hw
          refine ⟨j + 1, by omega, by omega, ?_, rfl⟩
          refine hw.trans ?_
          simp [Wk, wrap_succ (show j < 1000 by omega) (by decide)]
        · skip
          have hj1 : j = d.ins.length := by
            have : ¬ j < d.ins.length := by simpa using hc29
            omega
          subst hj1
          rw [List.take_length]
          refine AW.exit ?_
          refine hK10 _ _ ?_; try clear hK10 K10
          refine AW.seq_k fun K15 hK15 => ?_
          refine AW.regl false [8] (by rfl) fun K16 hK16 => ?_ -- region 11
          simp only [go_sem, Nat.reduceAdd, Nat.reduceEqDiff, Nat.reduceLeDiff, true_and, file_all, dgm_all, blk_all, List.length_map, rsrc_get, rblk_get, rdgm_get]
          refine hK16 _ _ ?_; try clear hK16 K16
          conv => enter [5]; simp only [setL_cons, setL_nil, List.set_cons_zero, List.set_cons_succ]
          refine AW.block ?_
          refine AW.loop_wk (α := Nat) (fun j => [.any, (.ref σ.length 0), (.ref (σ.length + 1) 0), (.ref (σ.length + 2) 0), (.val (.int .i64 (i : Nat))), (.ref (σ.length + 4) 0), (.ref (σ.length + 5) 0), .any, (.val (.int .i64 (j : Nat))), .any, .any, .any, .any, .any, .any, .any, .any, .any, .any, .any, .any, .any, .any, .any, .any, .any, .any, .any, .any, .any, .any, .any, .any, .any, .any, .any, .any, .any, .any, .any, .any, .any, .any, .any, .any, .any, .any, .any, .any, .any, .any, .any, .any, .any, .any, .any, .any, .any, .any, .any, .any, .any, .any, .any, .any, .any, .any, .any, .any, .any, .any, .any, .any, .any, .any, .any, .any, .any, .any, .any, .any, .any, .any, .any, .any, .any, .any, .any, .any, .any, .any, .any, .any, .any, .any, .any, .any, .any, .any, .any, .any, .any, .any, .any, .any, .any, .any, .any, .any, .any]) (fun j => σ ++ [.cells f.enc.cells, .cells [.nilsl], .cells [.slo true 4 ((f.ds.take i).map (fun d : Dgm => d.own.enc)) (σ.length + 3)], .cap i 4, .cells d.enc.cells, .cells [str d.name, .slo true 2 (d.ins.map PortM.enc) (σ.length + 6), .slo true 4 ((d.outs.take j).map OutM.enc) (σ.length + 7), .slo true 7 ([]) (σ.length + 8)], .cap d.ins.length 2, .cap j 4, .cap 0 7]) (fun j => d.outs.length - j) (fun j => j ≤ d.outs.length) 0 ?_ ?_
          · exact ⟨Nat.zero_le _, by simp [Wk], rfl⟩
          · intro j hj
            refine AW.seq_k fun K17 hK17 => ?_
            refine AW.regl false [54] (by rfl) fun K18 hK18 => ?_ -- region 12
            simp only [go_sem, Nat.reduceAdd, Nat.reduceEqDiff, Nat.reduceLeDiff, true_and, file_all, dgm_all, blk_all, List.length_map, rsrc_get, rblk_get, rdgm_get, dgm_cells d]
            refine hK18 _ _ ?_; try clear hK18 K18
            conv => enter [5]; simp only [setL_cons, setL_nil, List.set_cons_zero, List.set_cons_succ]
            refine AW.cond rfl (fun hc54 => ?_) (fun hc54 => ?_)
            · skip
              have hj1 : j < d.outs.length := by simpa using hc54
              obtain ⟨u, hu⟩ : ∃ z, z = d.outs[j] := ⟨_, rfl⟩
              have hy : (d.outs.map OutM.enc)[j]? = some u.enc := by rw [hu]; simp [hj1]
              have hap := app_at (en := OutM.enc) hj1 (by omega) true 4 40 (by decide)
              have htk : (d.outs.take j).map OutM.enc ++ [.agg [str u.port.name, i64 u.port.type, i64 u.src.block, i64 u.src.port]] = (d.outs.take (j + 1)).map OutM.enc := by rw [hu]; exact take_at OutM.enc hj1
              refine AW.skip ?_
              refine hK17 _ _ ?_; try clear hK17 K17
              refine AW.seq_k fun K19 hK19 => ?_
              refine AW.block ?_
              refine AW.lastml mixed false [] 26 (by kernel_rfl) (by kernel_rfl) (by rfl) fun K hK => ?_ -- region 14
              simp only [go_sem, Nat.reduceAdd, Nat.reduceEqDiff, Nat.reduceLeDiff, true_and, file_all, dgm_all, blk_all, List.length_map, rsrc_get, rblk_get, rdgm_get, dgm_cells d, at_row hy, hap, OutM.enc, Src.enc, row1_31 _ _ (out_len u) (out_all u), htk]
              refine qC.of en55 ((osource_calls u.src).on _).here (by rfl) ?_
              simp only [go_sem, Nat.reduceAdd, Nat.reduceEqDiff, Nat.reduceLeDiff, true_and, file_all, dgm_all, blk_all, List.length_map, rsrc_get, rblk_get, rdgm_get, dgm_cells d, at_row hy, hap, OutM.enc, Src.enc, row1_31 _ _ (out_len u) (out_all u), htk]
              refine hK _ _ fun env' hw => ?_
              simp only [setL_cons, setL_nil, List.set_cons_zero, List.set_cons_succ, upd_none, upd_at] at hw
              refine hK19 _ _ (AW.weaken hw ?_); clear hw; try clear hK19 K19
              refine AW.lastl false [8] (by rfl) fun K hK => ?_ -- region 13
              simp only [go_sem, Nat.reduceAdd, Nat.reduceEqDiff, Nat.reduceLeDiff, true_and, file_all, dgm_all, blk_all, List.length_map, rsrc_get, rblk_get, rdgm_get]
              refine hK _ _ fun env' hw => ?_
              simp only [setL_cons, setL_nil, List.set_cons_zero, List.set_cons_succ] at hw
              refine ⟨j + 1, by omega, by omega, ?_, rfl⟩
              refine hw.trans ?_
              simp [Wk, wrap_succ (show j < 1000 by omega) (by decide)]
            · skip
              have hj1 : j = d.outs.length := by
                have : ¬ j < d.outs.length := by simpa using hc54
                omega
              subst hj1
              rw [List.take_length]
              refine AW.exit ?_
              refine hK15 _ _ ?_; try clear hK15 K15
              refine AW.seq_k fun K20 hK20 => ?_
              refine AW.regl false [9] (by rfl) fun K21 hK21 => ?_ -- region 15
              simp only [go_sem, Nat.reduceAdd, Nat.reduceEqDiff, Nat.reduceLeDiff, true_and, file_all, dgm_all, blk_all, List.length_map, rsrc_get, rblk_get, rdgm_get]
              refine hK21 _ _ ?_; try clear hK21 K21
              conv => enter [5]; simp only [setL_cons, setL_nil, List.set_cons_zero, List.set_cons_succ]
              refine AW.block ?_
              refine AW.loop_wk (α := Nat) (fun j => [.any, (.ref σ.length 0), (.ref (σ.length + 1) 0), (.ref (σ.length + 2) 0), (.val (.int .i64 (i : Nat))), (.ref (σ.length + 4) 0), (.ref (σ.length + 5) 0), .any, .any, (.val (.int .i64 (j : Nat))), .any, .any, .any, .any, .any, .any, .any, .any, .any, .any, .any, .any, .any, .any, .any, .any, .any, .any, .any, .any, .any, .any, .any, .any, .any, .any, .any, .any, .any, .any, .any, .any, .any, .any, .any, .any, .any, .any, .any, .any, .any, .any, .any, .any, .any, .any, .any, .any, .any, .any, .any, .any, .any, .any, .any, .any, .any, .any, .any, .any, .any, .any, .any, .any, .any, .any, .any, .any, .any, .any, .any, .any, .any, .any, .any, .any, .any, .any, .any, .any, .any, .any, .any, .any, .any, .any, .any, .any, .any, .any, .any, .any, .any, .any, .any, .any, .any, .any, .any, .any]) (fun j => σ ++ [.cells f.enc.cells, .cells [.nilsl], .cells [.slo true 4 ((f.ds.take i).map (fun d : Dgm => d.own.enc)) (σ.length + 3)], .cap i 4, .cells d.enc.cells, .cells [str d.name, .slo true 2 (d.ins.map PortM.enc) (σ.length + 6), .slo true 4 (d.outs.map OutM.enc) (σ.length + 7), .slo true 7 ((d.blocks.take j).map (fun b : Blk => b.own.enc)) (σ.length + 8)], .cap d.ins.length 2, .cap d.outs.length 4, .cap j 7]) (fun j => d.blocks.length - j) (fun j => j ≤ d.blocks.length) 0 ?_ ?_
              · exact ⟨Nat.zero_le _, by simp [Wk], rfl⟩
              · intro j hj
                refine AW.seq_k fun K22 hK22 => ?_
                refine AW.regl false [89] (by rfl) fun K23 hK23 => ?_ -- region 16
                simp only [go_sem, Nat.reduceAdd, Nat.reduceEqDiff, Nat.reduceLeDiff, true_and, file_all, dgm_all, blk_all, List.length_map, rsrc_get, rblk_get, rdgm_get, dgm_cells d]
                refine hK23 _ _ ?_; try clear hK23 K23
                conv => enter [5]; simp only [setL_cons, setL_nil, List.set_cons_zero, List.set_cons_succ]
                refine AW.cond rfl (fun hc89 => ?_) (fun hc89 => ?_)
                · skip
                  have hj1 : j < d.blocks.length := by simpa using hc89
                  obtain ⟨u, hu⟩ : ∃ z, z = d.blocks[j] := ⟨_, rfl⟩
                  have hy : (d.blocks.map Blk.enc)[j]? = some u.enc := by rw [hu]; simp [hj1]
                  have hap := app_at (en := (fun b : Blk => b.own.enc)) hj1 (by omega) true 7 64 (by decide)
                  have htk : (d.blocks.take j).map (fun b : Blk => b.own.enc) ++ [u.own.enc] = (d.blocks.take (j + 1)).map (fun b : Blk => b.own.enc) := by rw [hu]; exact take_at (fun b : Blk => b.own.enc) hj1
                  refine AW.skip ?_
                  refine hK22 _ _ ?_; try clear hK22 K22
                  refine AW.seq_k fun K24 hK24 => ?_
                  refine AW.block ?_
                  refine AW.lastml mixed false [] 9 (by kernel_rfl) (by kernel_rfl) (by rfl) fun K hK => ?_ -- region 18
                  simp only [go_sem, Nat.reduceAdd, Nat.reduceEqDiff, Nat.reduceLeDiff, true_and, file_all, dgm_all, blk_all, List.length_map, rsrc_get, rblk_get, rdgm_get, dgm_cells d, at_row hy, hap, row1_32 _ _ (blk_len u.own) (blk_all u.own), htk]
                  refine qC.of en30 ((oblock_calls u (k5 u (by rw [hu]; exact List.getElem_mem hj1))).on _).here (by rfl) ?_
                  simp only [go_sem, Nat.reduceAdd, Nat.reduceEqDiff, Nat.reduceLeDiff, true_and, file_all, dgm_all, blk_all, List.length_map, rsrc_get, rblk_get, rdgm_get, dgm_cells d, at_row hy, hap, row1_32 _ _ (blk_len u.own) (blk_all u.own), htk]
                  refine hK _ _ fun env' hw => ?_
                  simp only [setL_cons, setL_nil, List.set_cons_zero, List.set_cons_succ, upd_none, upd_at] at hw
                  refine hK24 _ _ (AW.weaken hw ?_); clear hw; try clear hK24 K24
                  refine AW.lastl false [9] (by rfl) fun K hK => ?_ -- region 17
                  simp only [go_sem, Nat.reduceAdd, Nat.reduceEqDiff, Nat.reduceLeDiff, true_and, file_all, dgm_all, blk_all, List.length_map, rsrc_get, rblk_get, rdgm_get]
                  refine hK _ _ fun env' hw => ?_
                  simp only [setL_cons, setL_nil, List.set_cons_zero, List.set_cons_succ] at hw
                  refine ⟨j + 1, by omega, by omega, ?_, rfl⟩
                  refine hw.trans ?_
                  simp [Wk, wrap_succ (show j < 1000 by omega) (by decide)]
                · skip
                  have hj1 : j = d.blocks.length := by
                    have : ¬ j < d.blocks.length := by simpa using hc89
                    omega
                  subst hj1
                  rw [List.take_length]
                  have hap := app_at (en := (fun d : Dgm => d.own.enc)) hi1 (by omega) true 4 88 (by decide)
                  have htk : (f.ds.take i).map (fun d : Dgm => d.own.enc) ++ [.agg [str d.name, rowAV 2 true (d.ins.map PortM.enc), rowAV 4 true (d.outs.map OutM.enc), rowAV 7 true (d.blocks.map fun b => b.own.enc)]] = (f.ds.take (i + 1)).map (fun d : Dgm => d.own.enc) := by rw [← dgm_own, hd]; exact take_at (fun d : Dgm => d.own.enc) hi1
                  have hrow := fun σ => row1_35 σ (.agg [str d.name, rowAV 2 true (d.ins.map PortM.enc), rowAV 4 true (d.outs.map OutM.enc), rowAV 7 true (d.blocks.map fun b => b.own.enc)]) rfl (by rw [← dgm_own]; exact dgm_all d.own)
                  refine AW.exit ?_
                  refine hK20 _ _ ?_; try clear hK20 K20
                  refine AW.still (σ.length + 5) ((app_get σ _ 5).trans rfl) ?_
                  simp only [app_set, List.set_cons_zero, List.set_cons_succ, List.map_cons, List.map_nil, still_slo, still_val]
                  refine AW.lastl false [] (by rfl) fun K hK => ?_ -- region 19
                  simp only [go_sem, Nat.reduceAdd, Nat.reduceEqDiff, Nat.reduceLeDiff, true_and, file_all, dgm_all, blk_all, List.length_map, rsrc_get, rblk_get, rdgm_get, hap, hrow, htk]
                  refine hK _ _ fun env' hw => ?_
                  simp only [setL_cons, setL_nil, List.set_cons_zero, List.set_cons_succ] at hw
                  refine hK7 _ _ (AW.weaken hw ?_); clear hw; try clear hK7 K7
                  refine AW.lastl false [4] (by rfl) fun K hK => ?_ -- region 4
                  simp only [go_sem, Nat.reduceAdd, Nat.reduceEqDiff, Nat.reduceLeDiff, true_and, file_all, dgm_all, blk_all, List.length_map, rsrc_get, rblk_get, rdgm_get]
                  refine hK _ _ fun env' hw => ?_
                  simp only [setL_cons, setL_nil, List.set_cons_zero, List.set_cons_succ] at hw
                  refine ⟨i + 1, by omega, by omega, ?_, by simp [List.take_append, List.take_of_length_le, Dgm.enc, AV.cells]⟩
                  refine hw.trans ?_
                  simp [Wk, wrap_succ (show i < 1000 by omega) (by decide)]
    · skip
      have hi1 : ¬ i < f.ds.length := by simpa using hc14
      refine AW.exit ?_
      refine hK3 _ _ ?_; try clear hK3 K3
      refine AW.regl false [] (by rfl) fun K25 hK25 => ?_ -- region 20
      simp only [go_sem, Nat.reduceAdd, Nat.reduceEqDiff, Nat.reduceLeDiff, true_and, file_all, dgm_all, blk_all, List.length_map, rsrc_get, rblk_get, rdgm_get]
      refine hK25 _ _ ?_; try clear hK25 K25
      conv => enter [5]; simp only [setL_cons, setL_nil, List.set_cons_zero, List.set_cons_succ, upd_none, upd_at]
      have htk : f.ds.take i = f.ds := List.take_of_length_le (by omega)
      rw [htk, file_own]
      refine AW.ret ⟨.inr rfl, _, ret_cell (v := .agg [.slo true 4 (f.ds.map fun d => d.own.enc) (σ.length + 3)]) rfl ((load_app σ _ 37 1 0).trans (by simp only [go_sem, aLoadAt] <;> rfl)), by simp, ?_⟩
      exact .agg (.cons (frz_row (fun (d : Dgm) n => dgm_bel d.own n) (by omega) f.ds) .nil)
end Go.Proofs.Tryd
