import Derived.Test.YtnjehllmlheagaaDoorPkRgB
import Derived.Test.YtnjehllmlheagaaDoorPkRgA
/-! Flow: function 49. -/
namespace Go.Proofs.Tryd
set_option linter.unusedSimpArgs false
set_option linter.unusedVariables false
open Go Go.Proofs.Ev
namespace Fl
variable {Γ : List (Nat × List AV)} {w : AV} {G : List (Nat × List AV)}
set_option maxRecDepth 100000 in
theorem named_calls (hΓ : A.Words Γ) (f : FileM) (d : Dgm) (i : Nat) (hfd : f.ds[i]? = some d) (hd1 : d.ins.length ≤ 2000) (hd2 : d.outs.length ≤ 2000) (hnm : NmD d) (N : List (ByteArray × Nat)) (hN : lookN N d.name = findD f.ds d.name) {σ : Sto} {ot on : Nat} {fc : AV} {rest : List AV} (h1 : σ[ot]? = some (.cells (fc :: .mapo on :: rest))) (h2 : σ[on]? = some (mapN N)) : APureOn prog Γ 49 [.ref ot 0, i64 ((i : Nat) : Int), d.enc] σ (.val (.bool (namesM f i d))) := by
  refine APureOn.of func49 rfl fun τ => ?_
  simp only [ntmps49, List.length_cons, List.length_nil, Nat.reduceAdd, Nat.reduceSub, List.replicate_succ, List.replicate_zero, List.cons_append, List.nil_append]
  have h1' := getL h1 τ
  have h2' := getL h2 τ
  generalize σ ++ τ = σ at h1' h2' ⊢
  have g1 := getL h1'
  have g2 := getL h2'
  have hot := (List.getElem?_eq_some_iff.1 h1').1
  have hlk := fun l => lkNf (g2 l) d.name
  rw [hN] at hlk
  have hlI : d.ins.length ≤ maxLen := by rw [maxLen_eq]; omega
  have hlO : d.outs.length ≤ maxLen := by rw [maxLen_eq]; omega
  obtain ⟨jd, hjd⟩ := findD_mem hfd
  refine AW.regl false [5, 6] (by rfl) fun K1 hK1 => ?_ -- region 0
  simp only [go_sem, Nat.reduceAdd, Nat.reduceEqDiff, Nat.reduceLeDiff, true_and, List.length_map, len_row, one_row, List.drop_zero, blk_len, dgm_len, port_len, out_len, src_len, file_len, src_get, port_get, out_get, blk_get, dgm_get, file_get, dgm_all, blk_all, src_all, port_all, out_all, file_all, g1, hlk, mapP_zero]
  refine hK1 _ _ ?_; try clear hK1 K1
  conv => enter [5]; simp only [setL_cons, setL_nil, List.set_cons_zero, List.set_cons_succ]
  refine AW.regl false [7] (by rfl) fun K2 hK2 => ?_ -- region 1
  simp only [go_sem, Nat.reduceAdd, Nat.reduceEqDiff, Nat.reduceLeDiff, true_and, List.length_map, len_row, one_row, List.drop_zero, blk_len, dgm_len, port_len, out_len, src_len, file_len, src_get, port_get, out_get, blk_get, dgm_get, file_get, dgm_all, blk_all, src_all, port_all, out_all, file_all, g1, hlk, mapP_zero, aMakeMap, newMapNil]
  refine hK2 _ _ ?_; try clear hK2 K2
  conv => enter [5]; simp only [setL_cons, setL_nil, List.set_cons_zero, List.set_cons_succ, upd_none, upd_at]
  refine AW.regl false [8] (by rfl) fun K3 hK3 => ?_ -- region 2
  simp only [go_sem, Nat.reduceAdd, Nat.reduceEqDiff, Nat.reduceLeDiff, true_and, List.length_map, len_row, one_row, List.drop_zero, blk_len, dgm_len, port_len, out_len, src_len, file_len, src_get, port_get, out_get, blk_get, dgm_get, file_get, dgm_all, blk_all, src_all, port_all, out_all, file_all, g1, hlk, mapP_zero]
  refine hK3 _ _ ?_; try clear hK3 K3
  conv => enter [5]; simp only [setL_cons, setL_nil, List.set_cons_zero, List.set_cons_succ]
  refine AW.seq_k fun K4 hK4 => ?_
  refine AW.regl false [16, 17, 18] (by rfl) fun K5 hK5 => ?_ -- region 3
  simp only [go_sem, Nat.reduceAdd, Nat.reduceEqDiff, Nat.reduceLeDiff, true_and, List.length_map, len_row, one_row, List.drop_zero, blk_len, dgm_len, port_len, out_len, src_len, file_len, src_get, port_get, out_get, blk_get, dgm_get, file_get, dgm_all, blk_all, src_all, port_all, out_all, file_all, g1, hlk, mapP_zero, Dgm.enc]
  refine hK5 _ _ ?_; try clear hK5 K5
  conv => enter [5]; simp only [setL_cons, setL_nil, List.set_cons_zero, List.set_cons_succ]
  refine AW.block ?_
  refine AW.loop_dr (α := Nat) (fun p => [(.ref ot 0), (.val (.int .i64 ((i : Nat) : Int))), .any, .any, .any, (.ref σ.length 0), .any, .any, (.fn 74 [.ref (σ.length + 2) 0]), .any, .any, .any, .any, .any, .any, .any, (rowAV 2 d.nlI (d.ins.map PortM.enc)), (.val (.int .i64 ((d.ins.length : Nat) : Int))), (.val (.int .i64 ((p : Nat) : Int))), .any, .any, .any, .any, .any, .any, .any, .any, .any, .any, .any, .any, .any, .any, .any, .any, .any, .any, .any, .any, .any, .any, .any, .any, .any, .any, .any, .any, .any, .any, .any, .any, .any, .any, .any]) (fun p => σ ++ [.cells d.enc.cells, mapP ((d.ins.map (fun p : PortM => p.name)).take p), .cells [.mapo (σ.length + 1)]]) (fun p => d.ins.length - p) (fun p => p ≤ d.ins.length ∧ ((d.ins.map (fun p : PortM => p.name)).take p).all A.nameM = true ∧ ((d.ins.map (fun p : PortM => p.name)).take p).Nodup) 0 ?_ ?_ ?_
  · exact ⟨⟨Nat.zero_le _, ⟨rfl, List.nodup_nil⟩⟩, by simp [Wk], rfl⟩
  · refine fun y _ => ⟨?_, bel_app σ fun a ha => ?_⟩
    · simp only [belL, AV.bel, Bool.and_true, Bool.true_and, Bool.and_eq_true, decide_eq_true_eq, List.length_append, List.length_cons, List.length_nil]
      simp only [row_bel port_bel, row_bel out_bel, and_true, true_and]
      try omega
    · simp only [List.mem_cons, List.not_mem_nil, or_false] at ha
      rcases ha with rfl | rfl | rfl
      · exact dgm_cb d _
      · exact mapP_bel _ _
      · simp [AO.bel, belL, AV.bel]
  · rintro p ⟨hp, hal, hnd⟩
    refine AW.regl false [19] (by rfl) fun K6 hK6 => ?_ -- region 4
    simp only [go_sem, Nat.reduceAdd, Nat.reduceEqDiff, Nat.reduceLeDiff, true_and, List.length_map, len_row, one_row, List.drop_zero, blk_len, dgm_len, port_len, out_len, src_len, file_len, src_get, port_get, out_get, blk_get, dgm_get, file_get, dgm_all, blk_all, src_all, port_all, out_all, file_all, g1, hlk, mapP_zero]
    refine hK6 _ _ ?_; try clear hK6 K6
    conv => enter [5]; simp only [setL_cons, setL_nil, List.set_cons_zero, List.set_cons_succ]
    refine AW.seq_k fun K7 hK7 => ?_
    refine AW.cond rfl (fun hc19 => ?_) (fun hc19 => ?_)
    · skip
      have hp1 : p < d.ins.length := by simpa using hc19
      obtain ⟨u, hu⟩ : ∃ z, z = d.ins[p] := ⟨_, rfl⟩
      have hum : u ∈ d.ins := by rw [hu]; exact List.getElem_mem hp1
      have hx : (d.ins.map PortM.enc)[p]? = some u.enc := by rw [hu]; simp [hp1]
      have hpL : p < (d.ins.map (fun p : PortM => p.name)).length := by simpa using hp1
      have hLp : (d.ins.map (fun p : PortM => p.name))[p] = u.name := by simp [hu]
      refine AW.skip ?_
      refine hK7 _ _ ?_; try clear hK7 K7
      refine AW.seq_k fun K8 hK8 => ?_
      refine AW.block ?_
      refine AW.regl false [10] (by rfl) fun K9 hK9 => ?_ -- region 5
      simp only [go_sem, Nat.reduceAdd, Nat.reduceEqDiff, Nat.reduceLeDiff, true_and, List.length_map, len_row, one_row, List.drop_zero, blk_len, dgm_len, port_len, out_len, src_len, file_len, src_get, port_get, out_get, blk_get, dgm_get, file_get, dgm_all, blk_all, src_all, port_all, out_all, file_all, g1, hlk, mapP_zero, at_row hx]
      refine hK9 _ _ ?_; try clear hK9 K9
      conv => enter [5]; simp only [setL_cons, setL_nil, List.set_cons_zero, List.set_cons_succ, upd_none, upd_at]
      refine AW.regl false [25] (by rfl) fun K10 hK10 => ?_ -- region 6
      simp only [go_sem, Nat.reduceAdd, Nat.reduceEqDiff, Nat.reduceLeDiff, true_and, List.length_map, len_row, one_row, List.drop_zero, blk_len, dgm_len, port_len, out_len, src_len, file_len, src_get, port_get, out_get, blk_get, dgm_get, file_get, dgm_all, blk_all, src_all, port_all, out_all, file_all, g1, hlk, mapP_zero]
      refine sC.ofR en74 (add_calls hΓ u (hnm.ports u.name (by rw [portsN, List.mem_append]; exact .inl (List.mem_map.2 ⟨u, hum, rfl⟩))) ((d.ins.map (fun p : PortM => p.name)).take p) (σ := σ ++ [.cells d.enc.cells, mapP ((d.ins.map (fun p : PortM => p.name)).take p), .cells [.mapo (σ.length + 1)], .cells u.enc.cells]) (oc := σ.length + 2) (op := σ.length + 1) (by simp) (by simp)) (fun v' σ' hR => ?_)
      obtain ⟨rfl, rfl⟩ := hR
      simp only [go_sem, Nat.reduceAdd, Nat.reduceEqDiff, Nat.reduceLeDiff, true_and, List.length_map, len_row, one_row, List.drop_zero, blk_len, dgm_len, port_len, out_len, src_len, file_len, src_get, port_get, out_get, blk_get, dgm_get, file_get, dgm_all, blk_all, src_all, port_all, out_all, file_all, g1, hlk, mapP_zero]
      refine hK10 _ _ ?_; try clear hK10 K10
      conv => enter [5]; simp only [setL_cons, setL_nil, List.set_cons_zero, List.set_cons_succ]
      refine AW.cond rfl (fun hc25 => ?_) (fun hc25 => ?_)
      · skip
        have hbad : namesM f i d = false := by
          have hv : A.nameM u.name = false ∨ u.name ∈ (d.ins.map (fun p : PortM => p.name)).take p := by
            rw [← findS_iff]; simp at hc25; cases hq : A.nameM u.name <;> simp_all
          unfold namesM portsN
          rcases hv with hv | hv
          · rw [List.all_append, all_at hpL (by rw [hLp]; exact hv)]; rfl
          · have : ¬ ((d.ins.map (fun p : PortM => p.name)) ++ (d.outs.map (fun o : OutM => o.port.name))).Nodup := fun hd => by
              have h1 := (List.nodup_append.1 hd).1
              obtain ⟨j, hj, he⟩ := List.mem_take_iff_getElem.1 hv
              exact not_nodup (by omega) hpL (he.trans hLp.symm) h1
            rw [decide_eq_false this]; simp
        refine AW.regl false [6] (by rfl) fun K11 hK11 => ?_ -- region 7
        simp only [go_sem, Nat.reduceAdd, Nat.reduceEqDiff, Nat.reduceLeDiff, true_and, List.length_map, len_row, one_row, List.drop_zero, blk_len, dgm_len, port_len, out_len, src_len, file_len, src_get, port_get, out_get, blk_get, dgm_get, file_get, dgm_all, blk_all, src_all, port_all, out_all, file_all, g1, hlk, mapP_zero]
        refine hK11 _ _ ?_; try clear hK11 K11
        conv => enter [5]; simp only [setL_cons, setL_nil, List.set_cons_zero, List.set_cons_succ]
        refine AW.ret ⟨.inr rfl, _, rfl, by simp, ?_⟩ -- return 1
        refine frzB ?_
        rw [hbad]
      · skip
        have hok : A.nameM u.name = true := by cases hq : A.nameM u.name <;> simp_all
        have hni : u.name ∉ (d.ins.map (fun p : PortM => p.name)).take p := by rw [← findS_iff]; simp at hc25; simp_all
        refine AW.skip ?_
        refine hK8 _ _ ?_; try clear hK8 K8
        refine AW.lastl false [18] (by rfl) fun K hK => ?_ -- region 8
        simp only [go_sem, Nat.reduceAdd, Nat.reduceEqDiff, Nat.reduceLeDiff, true_and, List.length_map, len_row, one_row, List.drop_zero, blk_len, dgm_len, port_len, out_len, src_len, file_len, src_get, port_get, out_get, blk_get, dgm_get, file_get, dgm_all, blk_all, src_all, port_all, out_all, file_all, g1, hlk, mapP_zero]
        refine hK _ _ fun env' hw => ?_
        simp only [setL_cons, setL_nil, List.set_cons_zero, List.set_cons_succ] at hw
        refine ⟨p + 1, by omega, ⟨by omega, all_snoc hpL hal (by rw [hLp]; exact hok), nodup_snoc hpL hnd (by rw [hLp]; exact hni)⟩, ?_, ?_⟩
        · refine hw.trans ?_
          simp [Wk, wrap_succ hp1 hlI]
        · rw [insP_new hni, List.take_succ_eq_append_getElem hpL, hLp]
          simp [List.take_append, List.take_of_length_le]
    · skip
      have hp1 : p = d.ins.length := by
        have : ¬ p < d.ins.length := by simpa using hc19
        omega
      refine AW.exit ?_
      refine hK4 _ _ ?_; try clear hK4 K4
      refine AW.seq_k fun K12 hK12 => ?_
      refine AW.regl false [28, 29, 30] (by rfl) fun K13 hK13 => ?_ -- region 9
      simp only [go_sem, Nat.reduceAdd, Nat.reduceEqDiff, Nat.reduceLeDiff, true_and, List.length_map, len_row, one_row, List.drop_zero, blk_len, dgm_len, port_len, out_len, src_len, file_len, src_get, port_get, out_get, blk_get, dgm_get, file_get, dgm_all, blk_all, src_all, port_all, out_all, file_all, g1, hlk, mapP_zero, Dgm.enc]
      refine hK13 _ _ ?_; try clear hK13 K13
      conv => enter [5]; simp only [setL_cons, setL_nil, List.set_cons_zero, List.set_cons_succ]
      refine AW.block ?_
      refine AW.loop_dr (α := Nat) (fun q => [(.ref ot 0), (.val (.int .i64 ((i : Nat) : Int))), .any, .any, .any, (.ref σ.length 0), .any, .any, (.fn 74 [.ref (σ.length + 2) 0]), .any, .any, .any, .any, .any, .any, .any, .any, .any, .any, .any, .any, .any, .any, .any, .any, .any, .any, .any, (rowAV 4 d.nlO (d.outs.map OutM.enc)), (.val (.int .i64 ((d.outs.length : Nat) : Int))), (.val (.int .i64 ((q : Nat) : Int))), .any, .any, .any, .any, .any, .any, .any, .any, .any, .any, .any, .any, .any, .any, .any, .any, .any, .any, .any, .any, .any, .any, .any]) (fun q => σ ++ [.cells d.enc.cells, mapP ((d.ins.map (fun p : PortM => p.name)) ++ (d.outs.map (fun o : OutM => o.port.name)).take q), .cells [.mapo (σ.length + 1)]]) (fun q => d.outs.length - q) (fun q => q ≤ d.outs.length ∧ ((d.ins.map (fun p : PortM => p.name)) ++ (d.outs.map (fun o : OutM => o.port.name)).take q).all A.nameM = true ∧ ((d.ins.map (fun p : PortM => p.name)) ++ (d.outs.map (fun o : OutM => o.port.name)).take q).Nodup) 0 ?_ ?_ ?_
      · refine ⟨⟨Nat.zero_le _, ?_⟩, by simp [Wk], ?_⟩
        · rw [hp1, List.take_of_length_le (show (d.ins.map (fun p : PortM => p.name)).length ≤ d.ins.length by simp)] at hal hnd
          rw [List.take_zero, List.append_nil]
          exact ⟨hal, hnd⟩
        · rw [hp1, List.take_of_length_le (show (d.ins.map (fun p : PortM => p.name)).length ≤ d.ins.length by simp), List.take_zero, List.append_nil]
          rfl
      · refine fun y _ => ⟨?_, bel_app σ fun a ha => ?_⟩
        · simp only [belL, AV.bel, Bool.and_true, Bool.true_and, Bool.and_eq_true, decide_eq_true_eq, List.length_append, List.length_cons, List.length_nil]
          simp only [row_bel port_bel, row_bel out_bel, and_true, true_and]
          try omega
        · simp only [List.mem_cons, List.not_mem_nil, or_false] at ha
          rcases ha with rfl | rfl | rfl
          · exact dgm_cb d _
          · exact mapP_bel _ _
          · simp [AO.bel, belL, AV.bel]
      · rintro q ⟨hq, hal, hnd⟩
        refine AW.regl false [31] (by rfl) fun K14 hK14 => ?_ -- region 10
        simp only [go_sem, Nat.reduceAdd, Nat.reduceEqDiff, Nat.reduceLeDiff, true_and, List.length_map, len_row, one_row, List.drop_zero, blk_len, dgm_len, port_len, out_len, src_len, file_len, src_get, port_get, out_get, blk_get, dgm_get, file_get, dgm_all, blk_all, src_all, port_all, out_all, file_all, g1, hlk, mapP_zero]
        refine hK14 _ _ ?_; try clear hK14 K14
        conv => enter [5]; simp only [setL_cons, setL_nil, List.set_cons_zero, List.set_cons_succ]
        refine AW.seq_k fun K15 hK15 => ?_
        refine AW.cond rfl (fun hc31 => ?_) (fun hc31 => ?_)
        · skip
          have hq1 : q < d.outs.length := by simpa using hc31
          obtain ⟨u, hu⟩ : ∃ z, z = d.outs[q] := ⟨_, rfl⟩
          have hum : u ∈ d.outs := by rw [hu]; exact List.getElem_mem hq1
          have hx : (d.outs.map OutM.enc)[q]? = some u.enc := by rw [hu]; simp [hq1]
          have hqL : q < (d.outs.map (fun o : OutM => o.port.name)).length := by simpa using hq1
          have hLq : (d.outs.map (fun o : OutM => o.port.name))[q] = u.port.name := by simp [hu]
          have hsn : (d.ins.map (fun p : PortM => p.name)) ++ (d.outs.map (fun o : OutM => o.port.name)).take (q + 1) = (d.ins.map (fun p : PortM => p.name)) ++ (d.outs.map (fun o : OutM => o.port.name)).take q ++ [u.port.name] := by rw [List.take_succ_eq_append_getElem hqL, hLq, List.append_assoc]
          refine AW.skip ?_
          refine hK15 _ _ ?_; try clear hK15 K15
          refine AW.seq_k fun K16 hK16 => ?_
          refine AW.block ?_
          refine AW.regl false [12] (by rfl) fun K17 hK17 => ?_ -- region 11
          simp only [go_sem, Nat.reduceAdd, Nat.reduceEqDiff, Nat.reduceLeDiff, true_and, List.length_map, len_row, one_row, List.drop_zero, blk_len, dgm_len, port_len, out_len, src_len, file_len, src_get, port_get, out_get, blk_get, dgm_get, file_get, dgm_all, blk_all, src_all, port_all, out_all, file_all, g1, hlk, mapP_zero, at_row hx]
          refine hK17 _ _ ?_; try clear hK17 K17
          conv => enter [5]; simp only [setL_cons, setL_nil, List.set_cons_zero, List.set_cons_succ, upd_none, upd_at]
          refine AW.regl false [38] (by rfl) fun K18 hK18 => ?_ -- region 12
          simp only [go_sem, Nat.reduceAdd, Nat.reduceEqDiff, Nat.reduceLeDiff, true_and, List.length_map, len_row, one_row, List.drop_zero, blk_len, dgm_len, port_len, out_len, src_len, file_len, src_get, port_get, out_get, blk_get, dgm_get, file_get, dgm_all, blk_all, src_all, port_all, out_all, file_all, g1, hlk, mapP_zero, OutM.enc, PortM.enc]
          refine sC.ofR en74 (add_calls hΓ u.port (hnm.ports u.port.name (by rw [portsN, List.mem_append]; exact .inr (List.mem_map.2 ⟨u, hum, rfl⟩))) ((d.ins.map (fun p : PortM => p.name)) ++ (d.outs.map (fun o : OutM => o.port.name)).take q) (σ := σ ++ [.cells d.enc.cells, mapP ((d.ins.map (fun p : PortM => p.name)) ++ (d.outs.map (fun o : OutM => o.port.name)).take q), .cells [.mapo (σ.length + 1)], .cells u.enc.cells]) (oc := σ.length + 2) (op := σ.length + 1) (by simp) (by simp)) (fun v' σ' hR => ?_)
          obtain ⟨rfl, rfl⟩ := hR
          simp only [go_sem, Nat.reduceAdd, Nat.reduceEqDiff, Nat.reduceLeDiff, true_and, List.length_map, len_row, one_row, List.drop_zero, blk_len, dgm_len, port_len, out_len, src_len, file_len, src_get, port_get, out_get, blk_get, dgm_get, file_get, dgm_all, blk_all, src_all, port_all, out_all, file_all, g1, hlk, mapP_zero, OutM.enc, PortM.enc]
          refine hK18 _ _ ?_; try clear hK18 K18
          conv => enter [5]; simp only [setL_cons, setL_nil, List.set_cons_zero, List.set_cons_succ]
          refine AW.cond rfl (fun hc38 => ?_) (fun hc38 => ?_)
          · skip
            have hbad : namesM f i d = false := by
              have hv : A.nameM u.port.name = false ∨ u.port.name ∈ (d.ins.map (fun p : PortM => p.name)) ++ (d.outs.map (fun o : OutM => o.port.name)).take q := by
                rw [← findS_iff]; simp at hc38; cases hq : A.nameM u.port.name <;> simp_all
              unfold namesM portsN
              rcases hv with hv | hv
              · rw [List.all_append, all_at hqL (by rw [hLq]; exact hv)]; simp
              · have : ¬ ((d.ins.map (fun p : PortM => p.name)) ++ (d.outs.map (fun o : OutM => o.port.name))).Nodup := fun hd => by
                  obtain ⟨h1, h2, h3⟩ := List.nodup_append.1 hd
                  rcases List.mem_append.1 hv with hv | hv
                  · exact h3 _ hv _ (by rw [← hLq]; exact List.getElem_mem hqL) rfl
                  · obtain ⟨j, hj, he⟩ := List.mem_take_iff_getElem.1 hv
                    exact not_nodup (by omega) hqL (he.trans hLq.symm) h2
                rw [decide_eq_false this]; simp
            refine AW.regl false [6] (by rfl) fun K19 hK19 => ?_ -- region 13
            simp only [go_sem, Nat.reduceAdd, Nat.reduceEqDiff, Nat.reduceLeDiff, true_and, List.length_map, len_row, one_row, List.drop_zero, blk_len, dgm_len, port_len, out_len, src_len, file_len, src_get, port_get, out_get, blk_get, dgm_get, file_get, dgm_all, blk_all, src_all, port_all, out_all, file_all, g1, hlk, mapP_zero]
            refine hK19 _ _ ?_; try clear hK19 K19
            conv => enter [5]; simp only [setL_cons, setL_nil, List.set_cons_zero, List.set_cons_succ]
            refine AW.ret ⟨.inr rfl, _, rfl, by simp, ?_⟩ -- return 2
            refine frzB ?_
            rw [hbad]
          · skip
            have hok : A.nameM u.port.name = true := by cases hq : A.nameM u.port.name <;> simp_all
            have hni : u.port.name ∉ (d.ins.map (fun p : PortM => p.name)) ++ (d.outs.map (fun o : OutM => o.port.name)).take q := by rw [← findS_iff]; simp at hc38; simp_all
            have hns : ((d.ins.map (fun p : PortM => p.name)) ++ (d.outs.map (fun o : OutM => o.port.name)).take (q + 1)).all A.nameM = true ∧ ((d.ins.map (fun p : PortM => p.name)) ++ (d.outs.map (fun o : OutM => o.port.name)).take (q + 1)).Nodup := by
              rw [hsn]
              refine ⟨by rw [List.all_append, hal]; simp [hok], ?_⟩
              rw [List.nodup_append]
              exact ⟨hnd, by simp, fun a ha b hb => by rw [List.mem_singleton.1 hb]; rintro rfl; exact hni ha⟩
            refine AW.skip ?_
            refine hK16 _ _ ?_; try clear hK16 K16
            refine AW.lastl false [30] (by rfl) fun K hK => ?_ -- region 14
            simp only [go_sem, Nat.reduceAdd, Nat.reduceEqDiff, Nat.reduceLeDiff, true_and, List.length_map, len_row, one_row, List.drop_zero, blk_len, dgm_len, port_len, out_len, src_len, file_len, src_get, port_get, out_get, blk_get, dgm_get, file_get, dgm_all, blk_all, src_all, port_all, out_all, file_all, g1, hlk, mapP_zero]
            refine hK _ _ fun env' hw => ?_
            simp only [setL_cons, setL_nil, List.set_cons_zero, List.set_cons_succ] at hw
            refine ⟨q + 1, by omega, ⟨by omega, hns.1, hns.2⟩, ?_, ?_⟩
            · refine hw.trans ?_
              simp [Wk, wrap_succ hq1 hlO]
            · rw [insP_new hni, ← hsn]
              simp [List.take_append, List.take_of_length_le]
        · skip
          have hq1 : q = d.outs.length := by
            have : ¬ q < d.outs.length := by simpa using hc31
            omega
          have hall : (portsN d).all A.nameM = true ∧ (portsN d).Nodup := by
            rw [hq1, List.take_of_length_le (show (d.outs.map (fun o : OutM => o.port.name)).length ≤ d.outs.length by simp)] at hal hnd
            exact ⟨hal, hnd⟩
          refine AW.exit ?_
          refine hK12 _ _ ?_; try clear hK12 K12
          refine AW.regtdf mixed false 6 (.val (.bool (A.nameM d.name && (((((findD f.ds d.name).getD 0 : Nat) : Int)) == ((i : Nat) : Int))))) (by kernel_rfl) (by rfl) ?_ ?_ -- region 15
          · skip
            cases h42 : (A.nameM d.name)
            · skip
              simp only [go_sem, Nat.reduceAdd, Nat.reduceEqDiff, Nat.reduceLeDiff, true_and, List.length_map, len_row, one_row, List.drop_zero, blk_len, dgm_len, port_len, out_len, src_len, file_len, src_get, port_get, out_get, blk_get, dgm_get, file_get, dgm_all, blk_all, src_all, port_all, out_all, file_all, g1, hlk, mapP_zero, Dgm.enc, h42]
              refine qC.of en75 ((A.name_calls hΓ d.name (by have := hnm.name; omega)).on _).here (by rfl) ?_
              simp only [go_sem, Nat.reduceAdd, Nat.reduceEqDiff, Nat.reduceLeDiff, true_and, List.length_map, len_row, one_row, List.drop_zero, blk_len, dgm_len, port_len, out_len, src_len, file_len, src_get, port_get, out_get, blk_get, dgm_get, file_get, dgm_all, blk_all, src_all, port_all, out_all, file_all, g1, hlk, mapP_zero, Dgm.enc, h42]
              try simp [upd_at, h42, List.length_map, len_row, one_row, List.drop_zero, blk_len, dgm_len, port_len, out_len, src_len, file_len, src_get, port_get, out_get, blk_get, dgm_get, file_get, dgm_all, blk_all, src_all, port_all, out_all, file_all, g1, hlk, mapP_zero, Dgm.enc]
            · skip
              simp only [go_sem, Nat.reduceAdd, Nat.reduceEqDiff, Nat.reduceLeDiff, true_and, List.length_map, len_row, one_row, List.drop_zero, blk_len, dgm_len, port_len, out_len, src_len, file_len, src_get, port_get, out_get, blk_get, dgm_get, file_get, dgm_all, blk_all, src_all, port_all, out_all, file_all, g1, hlk, mapP_zero, Dgm.enc, h42]
              refine qC.of en75 ((A.name_calls hΓ d.name (by have := hnm.name; omega)).on _).here (by rfl) ?_
              simp only [go_sem, Nat.reduceAdd, Nat.reduceEqDiff, Nat.reduceLeDiff, true_and, List.length_map, len_row, one_row, List.drop_zero, blk_len, dgm_len, port_len, out_len, src_len, file_len, src_get, port_get, out_get, blk_get, dgm_get, file_get, dgm_all, blk_all, src_all, port_all, out_all, file_all, g1, hlk, mapP_zero, Dgm.enc, h42]
              try simp [upd_at, h42, List.length_map, len_row, one_row, List.drop_zero, blk_len, dgm_len, port_len, out_len, src_len, file_len, src_get, port_get, out_get, blk_get, dgm_get, file_get, dgm_all, blk_all, src_all, port_all, out_all, file_all, g1, hlk, mapP_zero, Dgm.enc]
          conv => enter [5]; simp only [List.set_cons_zero, List.set_cons_succ]
          refine AW.ret ⟨.inr rfl, _, rfl, by simp, ?_⟩ -- return 3
          refine frzB ?_
          unfold namesM
          rw [hall.1, decide_eq_true hall.2, hjd, Option.getD_some, beq_nat]
          simp
end Fl
end Go.Proofs.Tryd
/-! Flow: function 50. -/
namespace Go.Proofs.Tryd
set_option linter.unusedSimpArgs false
set_option linter.unusedVariables false
open Go Go.Proofs.Ev
namespace Fl
variable {Γ : List (Nat × List AV)} {w : AV} {G : List (Nat × List AV)}
set_option maxRecDepth 100000 in
theorem ranged_calls (f : FileM) (rest : List AV) (d : Dgm) (hf : f.ds.length ≤ 2000) (ho : ∀ e ∈ f.ds, e.outs.length ≤ 2000) (hO : d.outs.length ≤ 2000) (hB : d.blocks.length ≤ 2000) {σ : Sto} {ot : Nat} (h1 : σ[ot]? = some (.cells (rowAV 4 f.nl (f.ds.map Dgm.enc) :: rest))) : APureOn prog Γ 50 [.ref ot 0, d.enc] σ (.val (.bool (rngB f d))) := by
  refine APureOn.of func50 rfl fun τ => ?_
  simp only [ntmps50, List.length_cons, List.length_nil, Nat.reduceAdd, Nat.reduceSub, List.replicate_succ, List.replicate_zero, List.cons_append, List.nil_append]
  have h1' := getL h1 τ
  generalize σ ++ τ = σ at h1' ⊢
  have g1 := getL h1'
  have hol : ot < σ.length := (List.getElem?_eq_some_iff.1 h1').1
  have hlB : d.blocks.length ≤ maxLen := by rw [maxLen_eq]; omega
  have hsum := fun l => sumR_le (f := f) (m := 2000) (by omega) ho l
  refine AW.regl false [3, 4] (by rfl) fun K1 hK1 => ?_ -- region 0
  simp only [go_sem, Nat.reduceAdd, Nat.reduceEqDiff, Nat.reduceLeDiff, true_and, List.length_map, len_row, one_row, List.drop_zero, blk_len, dgm_len, port_len, out_len, src_len, file_len, src_get, port_get, out_get, blk_get, dgm_get, file_get, dgm_all, blk_all, src_all, port_all, out_all, file_all, g1]
  refine hK1 _ _ ?_; try clear hK1 K1
  conv => enter [5]; simp only [setL_cons, setL_nil, List.set_cons_zero, List.set_cons_succ]
  refine AW.regl false [5] (by rfl) fun K2 hK2 => ?_ -- region 1
  simp only [go_sem, Nat.reduceAdd, Nat.reduceEqDiff, Nat.reduceLeDiff, true_and, List.length_map, len_row, one_row, List.drop_zero, blk_len, dgm_len, port_len, out_len, src_len, file_len, src_get, port_get, out_get, blk_get, dgm_get, file_get, dgm_all, blk_all, src_all, port_all, out_all, file_all, g1, Dgm.enc]
  refine hK2 _ _ ?_; try clear hK2 K2
  conv => enter [5]; simp only [setL_cons, setL_nil, List.set_cons_zero, List.set_cons_succ]
  refine AW.seq_k fun K3 hK3 => ?_
  refine AW.regl false [12, 13, 14] (by rfl) fun K4 hK4 => ?_ -- region 2
  simp only [go_sem, Nat.reduceAdd, Nat.reduceEqDiff, Nat.reduceLeDiff, true_and, List.length_map, len_row, one_row, List.drop_zero, blk_len, dgm_len, port_len, out_len, src_len, file_len, src_get, port_get, out_get, blk_get, dgm_get, file_get, dgm_all, blk_all, src_all, port_all, out_all, file_all, g1, Dgm.enc]
  refine hK4 _ _ ?_; try clear hK4 K4
  conv => enter [5]; simp only [setL_cons, setL_nil, List.set_cons_zero, List.set_cons_succ]
  refine AW.block ?_
  refine AW.loop_dr (α := Nat) (fun k => [(.ref ot 0), .any, .any, (.ref σ.length 0), .any, (.val (.int .i64 ((d.outs.length : Int) + sumR f (d.blocks.take k)))), .any, .any, .any, .any, .any, .any, (rowAV 7 d.nlB (d.blocks.map Blk.enc)), (.val (.int .i64 ((d.blocks.length : Nat) : Int))), (.val (.int .i64 ((k : Nat) : Int))), .any, .any, .any, .any, .any, .any, .any, .any, .any, .any, .any, .any, .any, .any, .any, .any, .any, .any, .any, .any, .any, .any, .any, .any, .any, .any, .any, .any, .any, .any, .any, .any, .any, .any, .any, .any, .any, .any, .any, .any, .any, .any, .any]) (fun k => σ ++ [.cells (Dgm.enc d).cells]) (fun k => d.blocks.length - k) (fun k => k ≤ d.blocks.length ∧ ∀ b ∈ d.blocks.take k, b.src.length ≤ 1000) 0 ?_ ?_ ?_
  · exact ⟨⟨Nat.zero_le _, fun _ h => by cases h⟩, by simp [Wk, sumR], rfl⟩
  · refine fun y _ => ⟨?_, bel_app σ fun a ha => ?_⟩
    · simp [belL, AV.bel, row_bel blk_bel]
      omega
    · simp only [List.mem_cons, List.not_mem_nil, or_false] at ha
      rcases ha with rfl
      exact dgm_cb d _
  · rintro k ⟨hk, hsr⟩
    refine AW.regl false [15] (by rfl) fun K5 hK5 => ?_ -- region 3
    simp only [go_sem, Nat.reduceAdd, Nat.reduceEqDiff, Nat.reduceLeDiff, true_and, List.length_map, len_row, one_row, List.drop_zero, blk_len, dgm_len, port_len, out_len, src_len, file_len, src_get, port_get, out_get, blk_get, dgm_get, file_get, dgm_all, blk_all, src_all, port_all, out_all, file_all, g1]
    refine hK5 _ _ ?_; try clear hK5 K5
    conv => enter [5]; simp only [setL_cons, setL_nil, List.set_cons_zero, List.set_cons_succ]
    refine AW.seq_k fun K6 hK6 => ?_
    refine AW.cond rfl (fun hc15 => ?_) (fun hc15 => ?_)
    · skip
      have hk1 : k < d.blocks.length := by simpa using hc15
      obtain ⟨b, hb⟩ : ∃ z, z = d.blocks[k] := ⟨_, rfl⟩
      have hy : (d.blocks.map Blk.enc)[k]? = some b.enc := by rw [hb]; simp [hk1]
      have hwr : sumR f (d.blocks.take (k + 1)) = sumR f (d.blocks.take k) + f.results b := by rw [sumR_snoc hk1, ← hb]
      have hsb := hsum (d.blocks.take (k + 1))
      have hwq : IntKind.wrap .i64 ((d.outs.length : Int) + sumR f (d.blocks.take k) + f.results b) = (d.outs.length : Int) + sumR f (d.blocks.take (k + 1)) := by
        rw [Int.add_assoc, ← hwr]
        have : (d.blocks.take (k + 1)).length ≤ 2000 := by rw [List.length_take]; omega
        exact wrap_i64 (by omega) (by omega)
      refine AW.skip ?_
      refine hK6 _ _ ?_; try clear hK6 K6
      refine AW.seq_k fun K7 hK7 => ?_
      refine AW.block ?_
      refine AW.regl false [7] (by rfl) fun K8 hK8 => ?_ -- region 4
      simp only [go_sem, Nat.reduceAdd, Nat.reduceEqDiff, Nat.reduceLeDiff, true_and, List.length_map, len_row, one_row, List.drop_zero, blk_len, dgm_len, port_len, out_len, src_len, file_len, src_get, port_get, out_get, blk_get, dgm_get, file_get, dgm_all, blk_all, src_all, port_all, out_all, file_all, g1, at_row hy]
      refine hK8 _ _ ?_; try clear hK8 K8
      conv => enter [5]; simp only [setL_cons, setL_nil, List.set_cons_zero, List.set_cons_succ, upd_none, upd_at]
      refine AW.regml mixed false [5] 8 (by kernel_rfl) (by kernel_rfl) (by rfl) fun K9 hK9 => ?_ -- region 5
      simp only [go_sem, Nat.reduceAdd, Nat.reduceEqDiff, Nat.reduceLeDiff, true_and, List.length_map, len_row, one_row, List.drop_zero, blk_len, dgm_len, port_len, out_len, src_len, file_len, src_get, port_get, out_get, blk_get, dgm_get, file_get, dgm_all, blk_all, src_all, port_all, out_all, file_all, g1, hwq]
      refine qC.of en76 ((results_calls f b).on _).here (by rfl) ?_
      simp only [go_sem, Nat.reduceAdd, Nat.reduceEqDiff, Nat.reduceLeDiff, true_and, List.length_map, len_row, one_row, List.drop_zero, blk_len, dgm_len, port_len, out_len, src_len, file_len, src_get, port_get, out_get, blk_get, dgm_get, file_get, dgm_all, blk_all, src_all, port_all, out_all, file_all, g1, hwq]
      refine hK9 _ _ ?_; try clear hK9 K9
      conv => enter [5]; simp only [setL_cons, setL_nil, List.set_cons_zero, List.set_cons_succ]
      refine AW.regl false [29] (by rfl) fun K10 hK10 => ?_ -- region 6
      simp only [go_sem, Nat.reduceAdd, Nat.reduceEqDiff, Nat.reduceLeDiff, true_and, List.length_map, len_row, one_row, List.drop_zero, blk_len, dgm_len, port_len, out_len, src_len, file_len, src_get, port_get, out_get, blk_get, dgm_get, file_get, dgm_all, blk_all, src_all, port_all, out_all, file_all, g1, Blk.enc]
      refine hK10 _ _ ?_; try clear hK10 K10
      conv => enter [5]; simp only [setL_cons, setL_nil, List.set_cons_zero, List.set_cons_succ]
      refine AW.cond rfl (fun hc29 => ?_) (fun hc29 => ?_)
      · skip
        have hR : rngB f d = false := by
          have h1 : d.blocks.all (fun b => decide (b.src.length ≤ 1000)) = false := all_at hk1 (by rw [← hb]; simp at hc29 ⊢; omega)
          rw [rngB, h1]; rfl
        refine AW.regl false [4] (by rfl) fun K11 hK11 => ?_ -- region 7
        simp only [go_sem, Nat.reduceAdd, Nat.reduceEqDiff, Nat.reduceLeDiff, true_and, List.length_map, len_row, one_row, List.drop_zero, blk_len, dgm_len, port_len, out_len, src_len, file_len, src_get, port_get, out_get, blk_get, dgm_get, file_get, dgm_all, blk_all, src_all, port_all, out_all, file_all, g1]
        refine hK11 _ _ ?_; try clear hK11 K11
        conv => enter [5]; simp only [setL_cons, setL_nil, List.set_cons_zero, List.set_cons_succ]
        refine AW.ret ⟨.inr rfl, _, rfl, by simp, ?_⟩ -- return 1
        refine frzB ?_
        rw [hR]
      · skip
        have hbs : ¬ ((b.src.length : Nat) : Int) > 1000 := by simpa using hc29
        refine AW.skip ?_
        refine hK7 _ _ ?_; try clear hK7 K7
        refine AW.lastl false [14] (by rfl) fun K hK => ?_ -- region 8
        simp only [go_sem, Nat.reduceAdd, Nat.reduceEqDiff, Nat.reduceLeDiff, true_and, List.length_map, len_row, one_row, List.drop_zero, blk_len, dgm_len, port_len, out_len, src_len, file_len, src_get, port_get, out_get, blk_get, dgm_get, file_get, dgm_all, blk_all, src_all, port_all, out_all, file_all, g1]
        refine hK _ _ fun env' hw => ?_
        simp only [setL_cons, setL_nil, List.set_cons_zero, List.set_cons_succ] at hw
        refine ⟨k + 1, by omega, ⟨by omega, fun c hc => by
          rw [List.take_succ_eq_append_getElem hk1, List.mem_append, List.mem_singleton] at hc
          rcases hc with hc | hc
          · exact hsr c hc
          · rw [hc, ← hb]; omega⟩, ?_, by first | rfl | (simp [List.take_append, List.take_of_length_le]; done) | (simp [List.take_append, List.take_of_length_le]; repeat' constructor)⟩
        refine hw.trans ?_
        simp [Wk, wrap_succ hk1 hlB, hwr]
        try omega
    · skip
      have hk1 : k = d.blocks.length := by
        have : ¬ k < d.blocks.length := by simpa using hc15
        omega
      have hsr : ∀ b ∈ d.blocks, b.src.length ≤ 1000 := by rw [hk1, List.take_length] at hsr; exact hsr
      have hsb := hsum d.blocks
      refine AW.exit ?_
      refine hK3 _ _ ?_; try clear hK3 K3
      rw [hk1, List.take_length]
      refine AW.regcuts fun K12 hK12 => ?_ -- region 9
      refine AOps.cut false 13 43 (.val (.bool ((decide (((f.ds.length : Nat) : Int) ≤ 1000)) && (decide (((d.ins.length : Nat) : Int) ≤ 1000))))) (by rfl) ?_ ?_
      · skip
        cases h37 : ((decide (((f.ds.length : Nat) : Int) ≤ 1000)))
        · skip
          simp only [go_sem, Nat.reduceAdd, Nat.reduceEqDiff, Nat.reduceLeDiff, true_and, List.length_map, len_row, one_row, List.drop_zero, blk_len, dgm_len, port_len, out_len, src_len, file_len, src_get, port_get, out_get, blk_get, dgm_get, file_get, dgm_all, blk_all, src_all, port_all, out_all, file_all, g1, Dgm.enc, wrapI (show -1000000 ≤ (d.outs.length : Int) + (d.blocks.length : Int) by omega) (show (d.outs.length : Int) + (d.blocks.length : Int) ≤ 1000000 by omega), List.take_succ_cons, List.take_zero, h37]
          try simp [upd_at, h37, List.length_map, len_row, one_row, List.drop_zero, blk_len, dgm_len, port_len, out_len, src_len, file_len, src_get, port_get, out_get, blk_get, dgm_get, file_get, dgm_all, blk_all, src_all, port_all, out_all, file_all, g1, Dgm.enc, wrapI (show -1000000 ≤ (d.outs.length : Int) + (d.blocks.length : Int) by omega) (show (d.outs.length : Int) + (d.blocks.length : Int) ≤ 1000000 by omega)]
        · skip
          simp only [go_sem, Nat.reduceAdd, Nat.reduceEqDiff, Nat.reduceLeDiff, true_and, List.length_map, len_row, one_row, List.drop_zero, blk_len, dgm_len, port_len, out_len, src_len, file_len, src_get, port_get, out_get, blk_get, dgm_get, file_get, dgm_all, blk_all, src_all, port_all, out_all, file_all, g1, Dgm.enc, wrapI (show -1000000 ≤ (d.outs.length : Int) + (d.blocks.length : Int) by omega) (show (d.outs.length : Int) + (d.blocks.length : Int) ≤ 1000000 by omega), List.take_succ_cons, List.take_zero, h37]
          try simp [upd_at, h37, List.length_map, len_row, one_row, List.drop_zero, blk_len, dgm_len, port_len, out_len, src_len, file_len, src_get, port_get, out_get, blk_get, dgm_get, file_get, dgm_all, blk_all, src_all, port_all, out_all, file_all, g1, Dgm.enc, wrapI (show -1000000 ≤ (d.outs.length : Int) + (d.blocks.length : Int) by omega) (show (d.outs.length : Int) + (d.blocks.length : Int) ≤ 1000000 by omega)]
      simp only [List.drop_succ_cons, List.drop_zero, List.set_cons_zero, List.set_cons_succ]
      refine AOps.cut false 4 47 (.val (.bool (((decide (((f.ds.length : Nat) : Int) ≤ 1000)) && (decide (((d.ins.length : Nat) : Int) ≤ 1000))) && (decide (((d.outs.length : Int) + sumR f d.blocks) ≤ 1000))))) (by rfl) ?_ ?_
      · skip
        cases h43 : (((decide (((f.ds.length : Nat) : Int) ≤ 1000)) && (decide (((d.ins.length : Nat) : Int) ≤ 1000))))
        · skip
          simp only [go_sem, Nat.reduceAdd, Nat.reduceEqDiff, Nat.reduceLeDiff, true_and, List.length_map, len_row, one_row, List.drop_zero, blk_len, dgm_len, port_len, out_len, src_len, file_len, src_get, port_get, out_get, blk_get, dgm_get, file_get, dgm_all, blk_all, src_all, port_all, out_all, file_all, g1, Dgm.enc, wrapI (show -1000000 ≤ (d.outs.length : Int) + (d.blocks.length : Int) by omega) (show (d.outs.length : Int) + (d.blocks.length : Int) ≤ 1000000 by omega), List.take_succ_cons, List.take_zero, h43]
          try simp [upd_at, h43, List.length_map, len_row, one_row, List.drop_zero, blk_len, dgm_len, port_len, out_len, src_len, file_len, src_get, port_get, out_get, blk_get, dgm_get, file_get, dgm_all, blk_all, src_all, port_all, out_all, file_all, g1, Dgm.enc, wrapI (show -1000000 ≤ (d.outs.length : Int) + (d.blocks.length : Int) by omega) (show (d.outs.length : Int) + (d.blocks.length : Int) ≤ 1000000 by omega)]
        · skip
          simp only [go_sem, Nat.reduceAdd, Nat.reduceEqDiff, Nat.reduceLeDiff, true_and, List.length_map, len_row, one_row, List.drop_zero, blk_len, dgm_len, port_len, out_len, src_len, file_len, src_get, port_get, out_get, blk_get, dgm_get, file_get, dgm_all, blk_all, src_all, port_all, out_all, file_all, g1, Dgm.enc, wrapI (show -1000000 ≤ (d.outs.length : Int) + (d.blocks.length : Int) by omega) (show (d.outs.length : Int) + (d.blocks.length : Int) ≤ 1000000 by omega), List.take_succ_cons, List.take_zero, h43]
          try simp [upd_at, h43, List.length_map, len_row, one_row, List.drop_zero, blk_len, dgm_len, port_len, out_len, src_len, file_len, src_get, port_get, out_get, blk_get, dgm_get, file_get, dgm_all, blk_all, src_all, port_all, out_all, file_all, g1, Dgm.enc, wrapI (show -1000000 ≤ (d.outs.length : Int) + (d.blocks.length : Int) by omega) (show (d.outs.length : Int) + (d.blocks.length : Int) ≤ 1000000 by omega)]
      simp only [List.drop_succ_cons, List.drop_zero, List.set_cons_zero, List.set_cons_succ]
      refine AOps.cut false 11 4 (.val (.bool ((((decide (((f.ds.length : Nat) : Int) ≤ 1000)) && (decide (((d.ins.length : Nat) : Int) ≤ 1000))) && (decide (((d.outs.length : Int) + sumR f d.blocks) ≤ 1000))) && (decide ((d.outs.length : Int) + (d.blocks.length : Int) ≤ 1000))))) (by rfl) ?_ ?_
      · skip
        cases h47 : ((((decide (((f.ds.length : Nat) : Int) ≤ 1000)) && (decide (((d.ins.length : Nat) : Int) ≤ 1000))) && (decide (((d.outs.length : Int) + sumR f d.blocks) ≤ 1000))))
        · skip
          simp only [go_sem, Nat.reduceAdd, Nat.reduceEqDiff, Nat.reduceLeDiff, true_and, List.length_map, len_row, one_row, List.drop_zero, blk_len, dgm_len, port_len, out_len, src_len, file_len, src_get, port_get, out_get, blk_get, dgm_get, file_get, dgm_all, blk_all, src_all, port_all, out_all, file_all, g1, Dgm.enc, wrapI (show -1000000 ≤ (d.outs.length : Int) + (d.blocks.length : Int) by omega) (show (d.outs.length : Int) + (d.blocks.length : Int) ≤ 1000000 by omega), List.take_succ_cons, List.take_zero, h47]
          try simp [upd_at, h47, List.length_map, len_row, one_row, List.drop_zero, blk_len, dgm_len, port_len, out_len, src_len, file_len, src_get, port_get, out_get, blk_get, dgm_get, file_get, dgm_all, blk_all, src_all, port_all, out_all, file_all, g1, Dgm.enc, wrapI (show -1000000 ≤ (d.outs.length : Int) + (d.blocks.length : Int) by omega) (show (d.outs.length : Int) + (d.blocks.length : Int) ≤ 1000000 by omega)]
        · skip
          simp only [go_sem, Nat.reduceAdd, Nat.reduceEqDiff, Nat.reduceLeDiff, true_and, List.length_map, len_row, one_row, List.drop_zero, blk_len, dgm_len, port_len, out_len, src_len, file_len, src_get, port_get, out_get, blk_get, dgm_get, file_get, dgm_all, blk_all, src_all, port_all, out_all, file_all, g1, Dgm.enc, wrapI (show -1000000 ≤ (d.outs.length : Int) + (d.blocks.length : Int) by omega) (show (d.outs.length : Int) + (d.blocks.length : Int) ≤ 1000000 by omega), List.take_succ_cons, List.take_zero, h47]
          try simp [upd_at, h47, List.length_map, len_row, one_row, List.drop_zero, blk_len, dgm_len, port_len, out_len, src_len, file_len, src_get, port_get, out_get, blk_get, dgm_get, file_get, dgm_all, blk_all, src_all, port_all, out_all, file_all, g1, Dgm.enc, wrapI (show -1000000 ≤ (d.outs.length : Int) + (d.blocks.length : Int) by omega) (show (d.outs.length : Int) + (d.blocks.length : Int) ≤ 1000000 by omega)]
      simp only [List.drop_succ_cons, List.drop_zero, List.set_cons_zero, List.set_cons_succ]
      refine AOps.nil (hK12 _ _ ?_); try clear hK12 K12
      refine AW.ret ⟨.inr rfl, _, rfl, by simp, ?_⟩ -- return 2
      refine frzB ?_
      have h1 : d.blocks.all (fun b => decide (b.src.length ≤ 1000)) = true := by simpa using hsr
      rw [rngB, h1]
      simp only [Bool.true_and]
      rw [Bool.eq_iff_iff]
      simp
      omega
end Fl
end Go.Proofs.Tryd
/-! Flow: function 48. -/
namespace Go.Proofs.Tryd
set_option linter.unusedSimpArgs false
set_option linter.unusedVariables false
open Go Go.Proofs.Ev
namespace Fl
variable {Γ : List (Nat × List AV)} {w : AV} {G : List (Nat × List AV)}
set_option maxRecDepth 100000 in
theorem arity_fn (f : FileM) (rest : List AV) (b : Blk) (hs : b.kind = 7 → 0 ≤ b.sub ∧ b.sub < (f.ds.length : Int)) {σ : Sto} {oc ot : Nat} (h1 : σ[oc]? = some (.cells [.ref ot 0])) (h2 : σ[ot]? = some (.cells (rowAV 4 f.nl (f.ds.map Dgm.enc) :: rest))) : APureOn prog Γ 48 [b.enc, .ref oc 0] σ (.val (.bool (arB f b))) := by
  refine APureOn.of func48 rfl fun τ => ?_
  simp only [ntmps48, List.length_cons, List.length_nil, Nat.reduceAdd, Nat.reduceSub, List.replicate_succ, List.replicate_zero, List.cons_append, List.nil_append]
  have h1' := getL h1 τ
  have h2' := getL h2 τ
  generalize σ ++ τ = σ at h1' h2' ⊢
  have g1 := getL h1'
  have g2 := getL h2'
  refine AW.regl false [2, 3] (by rfl) fun K1 hK1 => ?_ -- region 0
  simp only [go_sem, Nat.reduceAdd, Nat.reduceEqDiff, Nat.reduceLeDiff, true_and, List.length_map, len_row, one_row, List.drop_zero, blk_len, dgm_len, port_len, out_len, src_len, file_len, src_get, port_get, out_get, blk_get, dgm_get, file_get, dgm_all, blk_all, src_all, port_all, out_all, file_all, g1, g2]
  refine hK1 _ _ ?_; try clear hK1 K1
  conv => enter [5]; simp only [setL_cons, setL_nil, List.set_cons_zero, List.set_cons_succ]
  refine AW.regtdf mixed false 3 (.val (.bool (arB f b))) (by kernel_rfl) (by rfl) ?_ ?_ -- region 1
  · skip
    cases h6 : (b.kind == 7)
    · skip
      simp only [go_sem, Nat.reduceAdd, Nat.reduceEqDiff, Nat.reduceLeDiff, true_and, List.length_map, len_row, one_row, List.drop_zero, blk_len, dgm_len, port_len, out_len, src_len, file_len, src_get, port_get, out_get, blk_get, dgm_get, file_get, dgm_all, blk_all, src_all, port_all, out_all, file_all, g1, g2, Blk.enc, h6]
      try simp [upd_at, h6, List.length_map, len_row, one_row, List.drop_zero, blk_len, dgm_len, port_len, out_len, src_len, file_len, src_get, port_get, out_get, blk_get, dgm_get, file_get, dgm_all, blk_all, src_all, port_all, out_all, file_all, g1, g2, Blk.enc]
      all_goals first | (simp [arB, h6, hil, bne, beq_nat]; done) | (simp [arB, h6]; done) | skip
    · skip
      have h7 : b.kind = 7 := by simpa using h6
      obtain ⟨u, hu⟩ := Int.eq_ofNat_of_zero_le (hs h7).1
      have hul : u < f.ds.length := by have := (hs h7).2; omega
      obtain ⟨e, he⟩ : ∃ z, f.ds[u]? = some z := ⟨_, List.getElem?_eq_getElem hul⟩
      have hz : (f.ds.map Dgm.enc)[u]? = some e.enc := by simp [he]
      have hil := insT_len hu he
      simp only [go_sem, Nat.reduceAdd, Nat.reduceEqDiff, Nat.reduceLeDiff, true_and, List.length_map, len_row, one_row, List.drop_zero, blk_len, dgm_len, port_len, out_len, src_len, file_len, src_get, port_get, out_get, blk_get, dgm_get, file_get, dgm_all, blk_all, src_all, port_all, out_all, file_all, g1, g2, Blk.enc, h6, hu, at_row hz, Dgm.enc]
      try simp [upd_at, h6, hu, at_row hz, Dgm.enc, List.length_map, len_row, one_row, List.drop_zero, blk_len, dgm_len, port_len, out_len, src_len, file_len, src_get, port_get, out_get, blk_get, dgm_get, file_get, dgm_all, blk_all, src_all, port_all, out_all, file_all, g1, g2, Blk.enc]
      all_goals first | (simp [arB, h6, hil, bne, beq_nat]; done) | (simp [arB, h6]; done) | skip
  conv => enter [5]; simp only [List.set_cons_zero, List.set_cons_succ]
  refine AW.ret ⟨.inr rfl, _, rfl, by simp, ?_⟩ -- return 1
  exact .keep rfl
end Fl
end Go.Proofs.Tryd
/-! Flow: function 52. -/
namespace Go.Proofs.Tryd
set_option linter.unusedSimpArgs false
set_option linter.unusedVariables false
open Go Go.Proofs.Ev
namespace Fl
variable {Γ : List (Nat × List AV)} {w : AV} {G : List (Nat × List AV)}
set_option maxRecDepth 100000 in
set_option maxHeartbeats 1000000 in
theorem hangs_calls (d : Dgm) (hB : d.blocks.length ≤ 2000) (hS : ∀ b ∈ d.blocks, b.src.length ≤ 2000) : APure prog Γ 52 [d.enc] (.sl 1 ((hangL d).map rowN)) := by
  refine APure.of func52 rfl fun σ => ?_
  simp only [ntmps52, List.length_cons, List.length_nil, Nat.reduceAdd, Nat.reduceSub, List.replicate_succ, List.replicate_zero, List.cons_append, List.nil_append]
  have hlB : d.blocks.length ≤ maxLen := by rw [maxLen_eq]; omega
  have hgl := hangL_len d
  refine AW.regl false [1, 2] (by rfl) fun K1 hK1 => ?_ -- region 0
  simp only [go_sem, Nat.reduceAdd, Nat.reduceEqDiff, Nat.reduceLeDiff, true_and, List.length_map, len_row, one_row, List.drop_zero, blk_len, dgm_len, port_len, out_len, src_len, file_len, src_get, port_get, out_get, blk_get, dgm_get, file_get, dgm_all, blk_all, src_all, port_all, out_all, file_all]
  refine hK1 _ _ ?_; try clear hK1 K1
  conv => enter [5]; simp only [setL_cons, setL_nil, List.set_cons_zero, List.set_cons_succ]
  refine AW.regl false [3] (by rfl) fun K2 hK2 => ?_ -- region 1
  simp only [go_sem, Nat.reduceAdd, Nat.reduceEqDiff, Nat.reduceLeDiff, true_and, List.length_map, len_row, one_row, List.drop_zero, blk_len, dgm_len, port_len, out_len, src_len, file_len, src_get, port_get, out_get, blk_get, dgm_get, file_get, dgm_all, blk_all, src_all, port_all, out_all, file_all, Dgm.enc, mkN hB]
  refine hK2 _ _ ?_; try clear hK2 K2
  conv => enter [5]; simp only [setL_cons, setL_nil, List.set_cons_zero, List.set_cons_succ]
  refine AW.seq_k fun K3 hK3 => ?_
  refine AW.regl false [13, 14, 15] (by rfl) fun K4 hK4 => ?_ -- region 2
  simp only [go_sem, Nat.reduceAdd, Nat.reduceEqDiff, Nat.reduceLeDiff, true_and, List.length_map, len_row, one_row, List.drop_zero, blk_len, dgm_len, port_len, out_len, src_len, file_len, src_get, port_get, out_get, blk_get, dgm_get, file_get, dgm_all, blk_all, src_all, port_all, out_all, file_all, Dgm.enc]
  refine hK4 _ _ ?_; try clear hK4 K4
  conv => enter [5]; simp only [setL_cons, setL_nil, List.set_cons_zero, List.set_cons_succ]
  refine AW.block ?_
  refine AW.loop_dr (α := Nat) (fun i => [.any, .any, .any, (.osl (σ.length + 1) 0 d.blocks.length 1), .any, .any, .any, .any, .any, .any, .any, .any, .any, (rowAV 7 d.nlB (d.blocks.map Blk.enc)), (.val (.int .i64 ((d.blocks.length : Nat) : Int))), (.val (.int .i64 ((i : Nat) : Int))), .any, .any, .any, .any, .any, .any, .any, .any, .any, .any, .any, .any, .any, .any, .any, .any, .any, .any, .any, .any, .any, .any, .any, .any, .any, .any, .any, .any, .any, .any, .any, .any, .any]) (fun i => σ ++ [.cells (Dgm.enc d).cells, .cells (gx (hangL d) i)]) (fun i => d.blocks.length - i) (fun i => i ≤ d.blocks.length) 0 ?_ ?_ ?_
  · refine ⟨Nat.zero_le _, by simp [Wk], ?_⟩
    rw [gx_zero, hgl]
    rfl
  · refine fun y _ => ⟨?_, bel_app σ fun a ha => ?_⟩
    · simp only [belL, AV.bel, Bool.and_true, Bool.true_and, Bool.and_eq_true, decide_eq_true_eq, List.length_append, List.length_cons, List.length_nil]
      simp [row_bel blk_bel]
    · simp only [List.mem_cons, List.not_mem_nil, or_false] at ha
      rcases ha with rfl | rfl
      · exact dgm_cb d _
      · exact gx_bel _ _ _
  · intro i hi
    refine AW.regl false [16] (by rfl) fun K5 hK5 => ?_ -- region 3
    simp only [go_sem, Nat.reduceAdd, Nat.reduceEqDiff, Nat.reduceLeDiff, true_and, List.length_map, len_row, one_row, List.drop_zero, blk_len, dgm_len, port_len, out_len, src_len, file_len, src_get, port_get, out_get, blk_get, dgm_get, file_get, dgm_all, blk_all, src_all, port_all, out_all, file_all]
    refine hK5 _ _ ?_; try clear hK5 K5
    conv => enter [5]; simp only [setL_cons, setL_nil, List.set_cons_zero, List.set_cons_succ]
    refine AW.seq_k fun K6 hK6 => ?_
    refine AW.cond rfl (fun hc16 => ?_) (fun hc16 => ?_)
    · skip
      have hi1 : i < d.blocks.length := by simpa using hc16
      obtain ⟨b, hb⟩ : ∃ z, z = d.blocks[i] := ⟨_, rfl⟩
      have hx : (d.blocks.map Blk.enc)[i]? = some b.enc := by rw [hb]; simp [hi1]
      have hbm : b ∈ d.blocks := by rw [hb]; exact List.getElem_mem hi1
      have hls : b.src.length ≤ maxLen := by rw [maxLen_eq]; have := hS b hbm; omega
      have hiL : i < (hangL d).length := by rw [hgl]; exact hi1
      have hLi : (hangL d)[i] = hangB b b.src := by simp [hangL, hb]
      have hatI := at_osl (o := σ.length + 1) (k := .i64) hi1
      have hgxl : (gx (hangL d) i).length = d.blocks.length := by rw [gx_len (by omega), hgl]
      refine AW.skip ?_
      refine hK6 _ _ ?_; try clear hK6 K6
      refine AW.seq_k fun K7 hK7 => ?_
      refine AW.block ?_
      refine AW.regl false [5, 4] (by rfl) fun K8 hK8 => ?_ -- region 4
      simp only [go_sem, Nat.reduceAdd, Nat.reduceEqDiff, Nat.reduceLeDiff, true_and, List.length_map, len_row, one_row, List.drop_zero, blk_len, dgm_len, port_len, out_len, src_len, file_len, src_get, port_get, out_get, blk_get, dgm_get, file_get, dgm_all, blk_all, src_all, port_all, out_all, file_all, Dgm.enc, at_row hx]
      refine hK8 _ _ ?_; try clear hK8 K8
      conv => enter [5]; simp only [setL_cons, setL_nil, List.set_cons_zero, List.set_cons_succ, upd_none, upd_at]
      refine AW.cap 1 ?_
      simp only [List.append_assoc, List.cons_append, List.nil_append]
      refine AW.own (σ.length + 1) i (σ.length + 3) ((app_get σ _ 1).trans rfl) (gx_at hiL) ((app_get σ _ 3).trans rfl) (by decide) ?_
      rw [app_set]
      simp only [List.set_cons_zero, List.set_cons_succ]
      refine AW.regl false [21, 22, 23] (by rfl) fun K9 hK9 => ?_ -- region 5
      simp only [go_sem, Nat.reduceAdd, Nat.reduceEqDiff, Nat.reduceLeDiff, true_and, List.length_map, len_row, one_row, List.drop_zero, blk_len, dgm_len, port_len, out_len, src_len, file_len, src_get, port_get, out_get, blk_get, dgm_get, file_get, dgm_all, blk_all, src_all, port_all, out_all, file_all, Blk.enc]
      refine hK9 _ _ ?_; try clear hK9 K9
      conv => enter [5]; simp only [setL_cons, setL_nil, List.set_cons_zero, List.set_cons_succ]
      refine AW.block ?_
      refine AW.loop_dr (α := Nat) (fun j => [.any, .any, .any, (.osl (σ.length + 1) 0 d.blocks.length 1), (.val (.int .i64 ((i : Nat) : Int))), (.ref (σ.length + 2) 0), .any, .any, .any, .any, .any, .any, .any, (rowAV 7 d.nlB (d.blocks.map Blk.enc)), (.val (.int .i64 ((d.blocks.length : Nat) : Int))), (.val (.int .i64 ((i : Nat) : Int))), .any, .any, .any, .any, .any, (rowAV 2 b.nl (b.src.map Src.enc)), (.val (.int .i64 ((b.src.length : Nat) : Int))), (.val (.int .i64 ((j : Nat) : Int))), .any, .any, .any, .any, .any, .any, .any, .any, .any, .any, .any, .any, .any, .any, .any, .any, .any, .any, .any, .any, .any, .any, .any, .any, .any]) (fun j => σ ++ [.cells (Dgm.enc d).cells, .cells ((gx (hangL d) i).set i (.slo true 1 ((hangB b (b.src.take j)).map natA) (σ.length + 3))), .cells (Blk.enc b).cells, .cap (hangB b (b.src.take j)).length 1]) (fun j => b.src.length - j) (fun j => j ≤ b.src.length) 0 ?_ ?_ ?_
      · exact ⟨Nat.zero_le _, by simp [Wk], rfl⟩
      · refine fun y _ => ⟨?_, bel_app σ fun a ha => ?_⟩
        · simp only [belL, AV.bel, Bool.and_true, Bool.true_and, Bool.and_eq_true, decide_eq_true_eq, List.length_append, List.length_cons, List.length_nil]
          simp [row_bel blk_bel, row_bel src_bel]
        · simp only [List.mem_cons, List.not_mem_nil, or_false] at ha
          rcases ha with rfl | rfl | rfl | rfl
          · exact dgm_cb d _
          · exact belL_set (by simp [AV.bel, belL_map natA _ fun _ _ => nat_bel _ _]) (gx_bel _ _ _)
          · exact blk_cb b _
          · rfl
      · intro j hi
        refine AW.regl false [24] (by rfl) fun K10 hK10 => ?_ -- region 6
        simp only [go_sem, Nat.reduceAdd, Nat.reduceEqDiff, Nat.reduceLeDiff, true_and, List.length_map, len_row, one_row, List.drop_zero, blk_len, dgm_len, port_len, out_len, src_len, file_len, src_get, port_get, out_get, blk_get, dgm_get, file_get, dgm_all, blk_all, src_all, port_all, out_all, file_all]
        refine hK10 _ _ ?_; try clear hK10 K10
        conv => enter [5]; simp only [setL_cons, setL_nil, List.set_cons_zero, List.set_cons_succ]
        refine AW.seq_k fun K11 hK11 => ?_
        refine AW.cond rfl (fun hc24 => ?_) (fun hc24 => ?_)
        · skip
          have hj1 : j < b.src.length := by simpa using hc24
          obtain ⟨s, hsi⟩ : ∃ z, z = b.src[j] := ⟨_, rfl⟩
          have hy : (b.src.map Src.enc)[j]? = some s.enc := by rw [hsi]; simp [hj1]
          have hH := hangB_snoc (b := b) hj1
          rw [← hsi] at hH
          refine AW.skip ?_
          refine hK11 _ _ ?_; try clear hK11 K11
          refine AW.seq_k fun K12 hK12 => ?_
          refine AW.block ?_
          refine AW.regl false [7] (by rfl) fun K13 hK13 => ?_ -- region 7
          simp only [go_sem, Nat.reduceAdd, Nat.reduceEqDiff, Nat.reduceLeDiff, true_and, List.length_map, len_row, one_row, List.drop_zero, blk_len, dgm_len, port_len, out_len, src_len, file_len, src_get, port_get, out_get, blk_get, dgm_get, file_get, dgm_all, blk_all, src_all, port_all, out_all, file_all, at_row hy]
          refine hK13 _ _ ?_; try clear hK13 K13
          conv => enter [5]; simp only [setL_cons, setL_nil, List.set_cons_zero, List.set_cons_succ, upd_none, upd_at]
          refine AW.regtf false 34 (.val (.bool (b.kind != 4 && decide (s.block ≥ 0)))) (by rfl) ?_ ?_ -- region 8
          · skip
            cases h29 : (b.kind != 4)
            · skip
              simp only [go_sem, Nat.reduceAdd, Nat.reduceEqDiff, Nat.reduceLeDiff, true_and, List.length_map, len_row, one_row, List.drop_zero, blk_len, dgm_len, port_len, out_len, src_len, file_len, src_get, port_get, out_get, blk_get, dgm_get, file_get, dgm_all, blk_all, src_all, port_all, out_all, file_all, Blk.enc, Src.enc, h29]
              try simp [upd_at, h29, List.length_map, len_row, one_row, List.drop_zero, blk_len, dgm_len, port_len, out_len, src_len, file_len, src_get, port_get, out_get, blk_get, dgm_get, file_get, dgm_all, blk_all, src_all, port_all, out_all, file_all, Blk.enc, Src.enc]
            · skip
              simp only [go_sem, Nat.reduceAdd, Nat.reduceEqDiff, Nat.reduceLeDiff, true_and, List.length_map, len_row, one_row, List.drop_zero, blk_len, dgm_len, port_len, out_len, src_len, file_len, src_get, port_get, out_get, blk_get, dgm_get, file_get, dgm_all, blk_all, src_all, port_all, out_all, file_all, Blk.enc, Src.enc, h29]
              try simp [upd_at, h29, List.length_map, len_row, one_row, List.drop_zero, blk_len, dgm_len, port_len, out_len, src_len, file_len, src_get, port_get, out_get, blk_get, dgm_get, file_get, dgm_all, blk_all, src_all, port_all, out_all, file_all, Blk.enc, Src.enc]
          conv => enter [5]; simp only [List.set_cons_zero, List.set_cons_succ]
          refine AW.cond rfl (fun hc34 => ?_) (fun hc34 => ?_)
          · skip
            obtain ⟨q, hq⟩ := Int.eq_ofNat_of_zero_le (show 0 ≤ s.block by simp at hc34; omega)
            rw [if_pos hc34, hq, Int.toNat_natCast] at hH
            obtain ⟨sb, sp⟩ := s
            simp only at hq
            subst hq
            obtain ⟨H, hHd⟩ : ∃ z, z = hangB b (b.src.take j) := ⟨_, rfl⟩
            have hHl : H.length ≤ 2000 := by
              rw [hHd]
              have h1 : (hangB b (b.src.take j)).length ≤ (b.src.take j).length := by simp only [hangB, List.length_map]; exact List.length_filter_le _ _
              have := hS b hbm
              rw [List.length_take] at h1
              omega
            rw [← hHd] at hH ⊢
            have hdrS := dr_set (l := gx (hangL d) i) (i := i) (by omega) (.slo true 1 (H.map natA) (σ.length + 3))
            have hapH := fun σ k => ap_natN (l := H) (by omega) true q σ k
            have hspS := spl_set (l := gx (hangL d) i) (i := i) (by omega) (.slo true 1 (H.map natA) (σ.length + 3)) (.slo true 1 ((H ++ [q]).map natA) (σ.length + 3))
            have hszS : i + 1 ≤ (gx (hangL d) i).length := by omega
            refine AW.lastch mixed [σ ++ [.cells (Dgm.enc d).cells, .cells ((gx (hangL d) i).set i (.slo true 1 (H.map natA) (σ.length + 3))), .cells (Blk.enc b).cells, .cap H.length 1, .cells (Src.enc ⟨((q : Nat) : Int), sp⟩).cells], σ ++ [.cells d.enc.cells, .cells ((gx (hangL d) i).set i (.slo true 1 ((H).map natA) (σ.length + 3))), .cells b.enc.cells, .cap (H.length + 1) 1, .cells (Src.enc ⟨((q : Nat) : Int), sp⟩).cells], σ ++ [.cells d.enc.cells, .cells ((gx (hangL d) i).set i (.slo true 1 ((H ++ [q]).map natA) (σ.length + 3))), .cells b.enc.cells, .cap (H.length + 1) 1, .cells (Src.enc ⟨((q : Nat) : Int), sp⟩).cells]] [(0, 1, true), (0, 1, true), (0, 0, true), (0, 0, true), (0, 0, true), (0, 0, true), (0, 0, true), (0, 0, true), (0, 0, true), (0, 0, false), (1, 1, true), (0, 0, false)] [] (by kernel_rfl) (by rfl) (by kernel_rfl) (by rfl) fun K hK => ?_ -- region 9
            simp only [go_sem, Nat.reduceAdd, Nat.reduceEqDiff, Nat.reduceLeDiff, true_and, List.length_map, len_row, one_row, List.drop_zero, blk_len, dgm_len, port_len, out_len, src_len, file_len, src_get, port_get, out_get, blk_get, dgm_get, file_get, dgm_all, blk_all, src_all, port_all, out_all, file_all, Src.enc, hatI, hdrS, List.length_set, hapH, hspS, if_pos hszS, List.append_assoc, List.cons_append, List.nil_append]
            refine xE.of (by first | rfl | (simp; done) | (simp; repeat' constructor)) ?_
            simp only [go_sem, Nat.reduceAdd, Nat.reduceEqDiff, Nat.reduceLeDiff, true_and, List.length_map, len_row, one_row, List.drop_zero, blk_len, dgm_len, port_len, out_len, src_len, file_len, src_get, port_get, out_get, blk_get, dgm_get, file_get, dgm_all, blk_all, src_all, port_all, out_all, file_all, Src.enc, hatI, hdrS, List.length_set, hapH, hspS, if_pos hszS, List.append_assoc, List.cons_append, List.nil_append]
            refine xE.of (by first | rfl | (simp; done) | (simp; repeat' constructor)) ?_
            simp only [go_sem, Nat.reduceAdd, Nat.reduceEqDiff, Nat.reduceLeDiff, true_and, List.length_map, len_row, one_row, List.drop_zero, blk_len, dgm_len, port_len, out_len, src_len, file_len, src_get, port_get, out_get, blk_get, dgm_get, file_get, dgm_all, blk_all, src_all, port_all, out_all, file_all, Src.enc, hatI, hdrS, List.length_set, hapH, hspS, if_pos hszS, List.append_assoc, List.cons_append, List.nil_append]
            refine hK _ fun env' hw => ?_
            simp only [setL_cons, setL_nil, List.set_cons_zero, List.set_cons_succ, upd_none, upd_at] at hw
            refine hK12 _ _ (AW.weaken hw ?_); clear hw; try clear hK12 K12
            refine AW.lastl false [23] (by rfl) fun K hK => ?_ -- region 10
            simp only [go_sem, Nat.reduceAdd, Nat.reduceEqDiff, Nat.reduceLeDiff, true_and, List.length_map, len_row, one_row, List.drop_zero, blk_len, dgm_len, port_len, out_len, src_len, file_len, src_get, port_get, out_get, blk_get, dgm_get, file_get, dgm_all, blk_all, src_all, port_all, out_all, file_all]
            refine hK _ _ fun env' hw => ?_
            simp only [setL_cons, setL_nil, List.set_cons_zero, List.set_cons_succ] at hw
            refine ⟨j + 1, by omega, by omega, ?_, ?_⟩
            · refine hw.trans ?_
              simp [Wk, wrap_succ hj1 hls]
            · rw [hH]
              first
              | (simp [List.take_append, List.take_of_length_le]; done)
              | rfl
          · skip
            have hH : hangB b (b.src.take (j + 1)) = hangB b (b.src.take j) := by rw [hH, if_neg (ne_true_of_eq_false hc34), List.append_nil]
            refine AW.skip ?_
            refine hK12 _ _ ?_; try clear hK12 K12
            refine AW.lastl false [23] (by rfl) fun K hK => ?_ -- region 10
            simp only [go_sem, Nat.reduceAdd, Nat.reduceEqDiff, Nat.reduceLeDiff, true_and, List.length_map, len_row, one_row, List.drop_zero, blk_len, dgm_len, port_len, out_len, src_len, file_len, src_get, port_get, out_get, blk_get, dgm_get, file_get, dgm_all, blk_all, src_all, port_all, out_all, file_all]
            refine hK _ _ fun env' hw => ?_
            simp only [setL_cons, setL_nil, List.set_cons_zero, List.set_cons_succ] at hw
            refine ⟨j + 1, by omega, by omega, ?_, ?_⟩
            · refine hw.trans ?_
              simp [Wk, wrap_succ hj1 hls]
            · rw [hH]
              first
              | (simp [List.take_append, List.take_of_length_le]; done)
              | rfl
        · skip
          have hj1 : j = b.src.length := by
            have : ¬ j < b.src.length := by simpa using hc24
            omega
          refine AW.exit ?_
          refine hK7 _ _ ?_; try clear hK7 K7
          refine AW.still (σ.length + 1) ((app_get σ _ 1).trans rfl) ?_
          rw [app_set]
          simp only [List.set_cons_zero, List.set_cons_succ]
          rw [hj1, List.take_length, ← hLi, gx_still hiL]
          refine AW.lastl false [15] (by rfl) fun K hK => ?_ -- region 11
          simp only [go_sem, Nat.reduceAdd, Nat.reduceEqDiff, Nat.reduceLeDiff, true_and, List.length_map, len_row, one_row, List.drop_zero, blk_len, dgm_len, port_len, out_len, src_len, file_len, src_get, port_get, out_get, blk_get, dgm_get, file_get, dgm_all, blk_all, src_all, port_all, out_all, file_all]
          refine hK _ _ fun env' hw => ?_
          simp only [setL_cons, setL_nil, List.set_cons_zero, List.set_cons_succ] at hw
          refine ⟨i + 1, by omega, by omega, ?_, by first | rfl | (simp [List.take_append, List.take_of_length_le]; done) | (simp [List.take_append, List.take_of_length_le]; repeat' constructor)⟩
          refine hw.trans ?_
          simp [Wk, wrap_succ hi1 hlB]
          try omega
    · skip
      have hi1 : i = d.blocks.length := by
        have : ¬ i < d.blocks.length := by simpa using hc16
        omega
      refine AW.exit ?_
      refine hK3 _ _ ?_; try clear hK3 K3
      refine AW.regl false [2] (by rfl) fun K15 hK15 => ?_ -- region 12
      simp only [go_sem, Nat.reduceAdd, Nat.reduceEqDiff, Nat.reduceLeDiff, true_and, List.length_map, len_row, one_row, List.drop_zero, blk_len, dgm_len, port_len, out_len, src_len, file_len, src_get, port_get, out_get, blk_get, dgm_get, file_get, dgm_all, blk_all, src_all, port_all, out_all, file_all]
      refine hK15 _ _ ?_; try clear hK15 K15
      conv => enter [5]; simp only [setL_cons, setL_nil, List.set_cons_zero, List.set_cons_succ]
      refine AW.ret ⟨.inr rfl, _, rfl, by simp, ?_⟩ -- return 1
      rw [hi1, ← hgl, gx_end]
      exact frz_gx (by omega) ((app_get σ _ 1).trans rfl) rfl
end Fl
end Go.Proofs.Tryd
/-! Flow: function 56. -/
namespace Go.Proofs.Tryd
set_option linter.unusedSimpArgs false
set_option linter.unusedVariables false
open Go Go.Proofs.Ev
namespace Fl
variable {Γ : List (Nat × List AV)} {w : AV} {G : List (Nat × List AV)}
set_option maxRecDepth 100000 in
theorem done_fn (d : List Bool) (n k : Nat) {σ : Sto} {o p : Nat} (h1 : σ[o]? = some (.cells [.osl p 0 n 1])) (h2 : σ[p]? = some (.cells (bools d))) (hk : k < n) (hd : d.length = n) : APureOn prog Γ 56 [natA k, .ref o 0] σ (.val (.bool (!d.getD k false))) := by
  refine APureOn.of func56 rfl fun τ => ?_
  simp only [ntmps56, List.length_cons, List.length_nil, Nat.reduceAdd, Nat.reduceSub, List.replicate_succ, List.replicate_zero, List.cons_append, List.nil_append]
  have h1' := getL h1 τ
  have h2' := getL h2 τ
  generalize σ ++ τ = σ at h1' h2' ⊢
  have g1 := getL h1'
  have g2 := getL h2'
  have hat := at_osl (o := p) (k := .i64) hk
  have hdr := dr_bool (d := d) (i := k) (by omega)
  refine AW.regl false [3] (by rfl) fun K1 hK1 => ?_ -- region 0
  simp only [go_sem, Nat.reduceAdd, Nat.reduceEqDiff, Nat.reduceLeDiff, true_and, List.length_map, len_row, one_row, List.drop_zero, blk_len, dgm_len, port_len, out_len, src_len, file_len, src_get, port_get, out_get, blk_get, dgm_get, file_get, dgm_all, blk_all, src_all, port_all, out_all, file_all, h1', h2', natA, hat, hdr]
  refine hK1 _ _ ?_; try clear hK1 K1
  conv => enter [5]; simp only [setL_cons, setL_nil, List.set_cons_zero, List.set_cons_succ]
  refine AW.regl false [3] (by rfl) fun K2 hK2 => ?_ -- region 1
  simp only [go_sem, Nat.reduceAdd, Nat.reduceEqDiff, Nat.reduceLeDiff, true_and, List.length_map, len_row, one_row, List.drop_zero, blk_len, dgm_len, port_len, out_len, src_len, file_len, src_get, port_get, out_get, blk_get, dgm_get, file_get, dgm_all, blk_all, src_all, port_all, out_all, file_all, h1', h2', natA, hat, hdr]
  refine hK2 _ _ ?_; try clear hK2 K2
  conv => enter [5]; simp only [setL_cons, setL_nil, List.set_cons_zero, List.set_cons_succ]
  refine AW.ret ⟨.inr rfl, _, rfl, by simp, ?_⟩ -- return 1
  exact .keep rfl
set_option maxRecDepth 100000 in
theorem indexFunc82 {α : Type} (en : α → AV) (hen : ∀ a, aGet prog 3 (en a).cells = some (en a)) (nl : Bool) (l : List α) (hl : l.length ≤ maxLen) (g : FuncId) (hg : Enters prog g) (caps : List AV) (p : α → Bool) (σ : Sto) (hp : ∀ a ∈ l, APureOn prog Γ g (en a :: caps) σ (.val (.bool (p a)))) : APureOn prog Γ 82 [rowAV 1 nl (l.map en), .fn g caps] σ (.val (.int .i64 (idxFrom p 0 l))) := by
  refine APureOn.of func82 rfl fun τ => ?_
  simp only [ntmps82, List.length_cons, List.length_nil, Nat.reduceAdd, Nat.reduceSub, List.replicate_succ, List.replicate_zero, List.cons_append, List.nil_append]
  have hp' : ∀ (i : Nat) (h : i < l.length), APureOn prog Γ g (en l[i] :: caps) (σ ++ τ) (.val (.bool (p l[i]))) := fun i h => (hp _ (List.getElem_mem h)).more τ
  generalize σ ++ τ = σ at hp' ⊢
  refine AW.regl false [4] (by rfl) fun K1 hK1 => ?_ -- region 0
  simp only [go_sem, Nat.reduceAdd, Nat.reduceEqDiff, Nat.reduceLeDiff, true_and, List.length_map, hen]
  refine hK1 _ _ ?_; try clear hK1 K1
  conv => enter [5]; simp only [setL_cons, setL_nil, List.set_cons_zero, List.set_cons_succ]
  refine AW.seq_k fun K2 hK2 => ?_
  refine AW.regl false [7, 8] (by rfl) fun K3 hK3 => ?_ -- region 1
  simp only [go_sem, Nat.reduceAdd, Nat.reduceEqDiff, Nat.reduceLeDiff, true_and, List.length_map, hen]
  refine hK3 _ _ ?_; try clear hK3 K3
  conv => enter [5]; simp only [setL_cons, setL_nil, List.set_cons_zero, List.set_cons_succ]
  refine AW.block ?_
  refine AW.loop_wk (α := Nat) (fun i => [(rowAV 1 nl (l.map en)), (.fn g caps), .any, .any, .any, .any, .any, (.val (.int .i64 (l.length : Nat))), (.val (.int .i64 (i : Nat))), .any, .any, .any, .any, .any, .any, .any, .any, .any, .any]) (fun i => σ) (fun i => l.length - i) (fun i => i ≤ l.length ∧ idxFrom p 0 l = idxFrom p i (l.drop i)) 0 ?_ ?_
  · exact ⟨⟨Nat.zero_le _, rfl⟩, by simp [Wk], rfl⟩
  · rintro i ⟨hi, hix⟩
    refine AW.regl false [9] (by rfl) fun K4 hK4 => ?_ -- region 2
    simp only [go_sem, Nat.reduceAdd, Nat.reduceEqDiff, Nat.reduceLeDiff, true_and, List.length_map, hen]
    refine hK4 _ _ ?_; try clear hK4 K4
    conv => enter [5]; simp only [setL_cons, setL_nil, List.set_cons_zero, List.set_cons_succ]
    refine AW.seq_k fun K5 hK5 => ?_
    refine AW.cond rfl (fun hc9 => ?_) (fun hc9 => ?_)
    · skip
      have hc9 : i < l.length := by simpa using hc9
      have hx : (l.map en)[i]? = some (en l[i]) := by simp [hc9]
      rw [idxFrom_drop p l i hc9] at hix
      refine AW.skip ?_
      refine hK5 _ _ ?_; try clear hK5 K5
      refine AW.seq_k fun K6 hK6 => ?_
      refine AW.block ?_
      refine AW.regl false [5] (by rfl) fun K7 hK7 => ?_ -- region 3
      simp only [go_sem, Nat.reduceAdd, Nat.reduceEqDiff, Nat.reduceLeDiff, true_and, List.length_map, hen]
      refine hK7 _ _ ?_; try clear hK7 K7
      conv => enter [5]; simp only [setL_cons, setL_nil, List.set_cons_zero, List.set_cons_succ]
      refine AW.regl false [16] (by rfl) fun K8 hK8 => ?_ -- region 4
      simp only [go_sem, Nat.reduceAdd, Nat.reduceEqDiff, Nat.reduceLeDiff, true_and, List.length_map, hen, at_row hx]
      refine sC.of hg (hp' i hc9).here (by rfl) ?_
      simp only [go_sem, Nat.reduceAdd, Nat.reduceEqDiff, Nat.reduceLeDiff, true_and, List.length_map, hen, at_row hx]
      refine hK8 _ _ ?_; try clear hK8 K8
      conv => enter [5]; simp only [setL_cons, setL_nil, List.set_cons_zero, List.set_cons_succ]
      refine AW.cond rfl (fun hc16 => ?_) (fun hc16 => ?_)
      · skip
        rw [if_pos hc16] at hix
        refine AW.regl false [4] (by rfl) fun K9 hK9 => ?_ -- region 5
        simp only [go_sem, Nat.reduceAdd, Nat.reduceEqDiff, Nat.reduceLeDiff, true_and, List.length_map, hen]
        refine hK9 _ _ ?_; try clear hK9 K9
        conv => enter [5]; simp only [setL_cons, setL_nil, List.set_cons_zero, List.set_cons_succ]
        refine AW.ret ⟨.inr rfl, _, rfl, by simp, ?_⟩ -- return 1
        refine frzI ?_
        exact hix.symm
      · skip
        rw [if_neg (ne_true_of_eq_false hc16)] at hix
        refine AW.skip ?_
        refine hK6 _ _ ?_; try clear hK6 K6
        refine AW.lastl false [8] (by rfl) fun K hK => ?_ -- region 6
        simp only [go_sem, Nat.reduceAdd, Nat.reduceEqDiff, Nat.reduceLeDiff, true_and, List.length_map, hen]
        refine hK _ _ fun env' hw => ?_
        simp only [setL_cons, setL_nil, List.set_cons_zero, List.set_cons_succ] at hw
        refine ⟨i + 1, by omega, ⟨by omega, hix⟩, ?_, rfl⟩
        refine hw.trans ?_
        simp [Wk, wrap_succ hc9 hl]
    · skip
      have hc : i = l.length := by have : ¬ i < l.length := (by simpa using hc9); omega
      refine AW.exit ?_
      refine hK2 _ _ ?_; try clear hK2 K2
      refine AW.regl false [4] (by rfl) fun K10 hK10 => ?_ -- region 7
      simp only [go_sem, Nat.reduceAdd, Nat.reduceEqDiff, Nat.reduceLeDiff, true_and, List.length_map, hen]
      refine hK10 _ _ ?_; try clear hK10 K10
      conv => enter [5]; simp only [setL_cons, setL_nil, List.set_cons_zero, List.set_cons_succ]
      refine AW.ret ⟨.inr rfl, _, rfl, by simp, ?_⟩ -- return 2
      refine frzI ?_
      rw [hix, hc, List.drop_length]
      rfl

set_option maxRecDepth 100000 in
theorem containsFunc55 {α : Type} (en : α → AV) (hen : ∀ a, aGet prog 3 (en a).cells = some (en a)) (nl : Bool) (l : List α) (hl : l.length ≤ maxLen) (g : FuncId) (hg : Enters prog g) (caps : List AV) (p : α → Bool) (σ : Sto) (hp : ∀ a ∈ l, APureOn prog Γ g (en a :: caps) σ (.val (.bool (p a)))) : APureOn prog Γ 55 [rowAV 1 nl (l.map en), .fn g caps] σ (.val (.bool (l.any p))) := by
  refine APureOn.of func55 rfl fun τ => ?_
  simp only [ntmps55, List.length_cons, List.length_nil, Nat.reduceAdd, Nat.reduceSub, List.replicate_succ, List.replicate_zero, List.cons_append, List.nil_append]
  have hi := (indexFunc82 en hen nl l hl g hg caps p σ hp).more τ
  generalize σ ++ τ = σ at hi ⊢
  refine AW.regl false [4] (by rfl) fun K1 hK1 => ?_ -- region 0
  simp only [go_sem, Nat.reduceAdd, Nat.reduceEqDiff, Nat.reduceLeDiff, true_and]
  refine hK1 _ _ ?_; try clear hK1 K1
  conv => enter [5]; simp only [setL_cons, setL_nil, List.set_cons_zero, List.set_cons_succ]
  refine AW.regl false [4] (by rfl) fun K2 hK2 => ?_ -- region 1
  simp only [go_sem, Nat.reduceAdd, Nat.reduceEqDiff, Nat.reduceLeDiff, true_and]
  refine sC.of en82 (hi).here (by rfl) ?_
  simp only [go_sem, Nat.reduceAdd, Nat.reduceEqDiff, Nat.reduceLeDiff, true_and]
  refine hK2 _ _ ?_; try clear hK2 K2
  conv => enter [5]; simp only [setL_cons, setL_nil, List.set_cons_zero, List.set_cons_succ]
  refine AW.ret ⟨.inr rfl, _, rfl, by simp, ?_⟩ -- return 1
  refine frzB ?_
  exact idxFrom_nonneg p l 0

set_option maxRecDepth 100000 in
theorem ready_fn (l : List (List Nat)) (nl : Bool) (d : List Bool) (i : Nat) {σ : Sto} {o1 o2 p : Nat} (h1 : σ[o1]? = some (.cells [.osl p 0 l.length 1])) (h2 : σ[p]? = some (.cells (bools d))) (h3 : σ[o2]? = some (.cells [rowAV 1 nl (l.map rowN)])) (hi : i < l.length) (hd : d.length = l.length) (hb : ∀ x ∈ l, ∀ k ∈ x, k < l.length) (hx : ∀ x ∈ l, x.length ≤ maxLen) : APureOn prog Γ 54 [natA i, .ref o1 0, .ref o2 0] σ (.val (.bool (rdy (lmat l) l.length d i))) := by
  refine APureOn.of func54 rfl fun τ => ?_
  simp only [ntmps54, List.length_cons, List.length_nil, Nat.reduceAdd, Nat.reduceSub, List.replicate_succ, List.replicate_zero, List.cons_append, List.nil_append]
  have h1' := getL h1 τ
  have h2' := getL h2 τ
  have h3' := getL h3 τ
  generalize σ ++ τ = σ at h1' h2' h3' ⊢
  have g1 := getL h1'
  have g2 := getL h2'
  have g3 := getL h3'
  have hat := at_osl (o := p) (k := .i64) hi
  have hdr := dr_bool (d := d) (i := i) (by omega)
  obtain ⟨x, hxi⟩ : ∃ z, l[i]? = some z := ⟨_, List.getElem?_eq_getElem hi⟩
  have hxm := List.mem_of_getElem? hxi
  have hy : (l.map rowN)[i]? = some (rowN x) := by simp [hxi]
  have hgx : l.getD i [] = x := by simp [List.getD_eq_getElem?_getD, hxi]
  refine AW.regl false [4] (by rfl) fun K1 hK1 => ?_ -- region 0
  simp only [go_sem, Nat.reduceAdd, Nat.reduceEqDiff, Nat.reduceLeDiff, true_and, List.length_map, len_row, one_row, List.drop_zero, blk_len, dgm_len, port_len, out_len, src_len, file_len, src_get, port_get, out_get, blk_get, dgm_get, file_get, dgm_all, blk_all, src_all, port_all, out_all, file_all, h1', h2', h3', natA, hat, hdr]
  refine hK1 _ _ ?_; try clear hK1 K1
  conv => enter [5]; simp only [setL_cons, setL_nil, List.set_cons_zero, List.set_cons_succ]
  refine AW.regtf false 4 (.val (.bool (!(d.getD i false) && !(x.any fun k => !d.getD k false)))) (by rfl) ?_ ?_ -- region 1
  · skip
    cases h8 : (d.getD i false)
    · skip
      simp only [go_sem, Nat.reduceAdd, Nat.reduceEqDiff, Nat.reduceLeDiff, true_and, List.length_map, len_row, one_row, List.drop_zero, blk_len, dgm_len, port_len, out_len, src_len, file_len, src_get, port_get, out_get, blk_get, dgm_get, file_get, dgm_all, blk_all, src_all, port_all, out_all, file_all, h1', h2', h3', natA, hat, hdr, at_row hy, rowN_cells, h8]
      refine sC.of en55 (containsFunc55 natA nat_get true x (hx x hxm) 56 en56 [.ref o1 0] (fun k => !d.getD k false) _ (fun k hk => done_fn d l.length k h1' h2' (hb x hxm k hk) hd)).here (by rfl) ?_
      simp only [go_sem, Nat.reduceAdd, Nat.reduceEqDiff, Nat.reduceLeDiff, true_and, List.length_map, len_row, one_row, List.drop_zero, blk_len, dgm_len, port_len, out_len, src_len, file_len, src_get, port_get, out_get, blk_get, dgm_get, file_get, dgm_all, blk_all, src_all, port_all, out_all, file_all, h1', h2', h3', natA, hat, hdr, at_row hy, rowN_cells, h8]
      try simp [upd_at, h8, List.length_map, len_row, one_row, List.drop_zero, blk_len, dgm_len, port_len, out_len, src_len, file_len, src_get, port_get, out_get, blk_get, dgm_get, file_get, dgm_all, blk_all, src_all, port_all, out_all, file_all, h1', h2', h3', natA, hat, hdr, at_row hy, rowN_cells]
    · skip
      simp only [go_sem, Nat.reduceAdd, Nat.reduceEqDiff, Nat.reduceLeDiff, true_and, List.length_map, len_row, one_row, List.drop_zero, blk_len, dgm_len, port_len, out_len, src_len, file_len, src_get, port_get, out_get, blk_get, dgm_get, file_get, dgm_all, blk_all, src_all, port_all, out_all, file_all, h1', h2', h3', natA, hat, hdr, at_row hy, rowN_cells, h8]
      try simp [upd_at, h8, List.length_map, len_row, one_row, List.drop_zero, blk_len, dgm_len, port_len, out_len, src_len, file_len, src_get, port_get, out_get, blk_get, dgm_get, file_get, dgm_all, blk_all, src_all, port_all, out_all, file_all, h1', h2', h3', natA, hat, hdr, at_row hy, rowN_cells]
  conv => enter [5]; simp only [List.set_cons_zero, List.set_cons_succ]
  refine AW.ret ⟨.inr rfl, _, rfl, by simp, ?_⟩ -- return 1
  rw [rdy_any hb, hgx]
  exact .keep rfl
end Fl
end Go.Proofs.Tryd
/-! Flow: function 29. -/
namespace Go.Proofs.Tryd
set_option linter.unusedSimpArgs false
set_option linter.unusedVariables false
open Go Go.Proofs.Ev
namespace Fl
variable {Γ : List (Nat × List AV)} {w : AV} {G : List (Nat × List AV)}
set_option maxRecDepth 100000 in
set_option maxHeartbeats 1000000 in
theorem sorted_calls (l : List (List Nat)) (nl : Bool) (hn : l.length ≤ 2000) (hb : ∀ x ∈ l, ∀ k ∈ x, k < l.length) (hx : ∀ x ∈ l, x.length ≤ maxLen) : APure prog Γ 29 [rowAV 1 nl (l.map rowN)] (ordV (ord (lmat l) l.length)) := by
  refine APure.of func29 rfl fun σ => ?_
  simp only [ntmps29, List.length_cons, List.length_nil, Nat.reduceAdd, Nat.reduceSub, List.replicate_succ, List.replicate_zero, List.cons_append, List.nil_append]
  have hll : l.length ≤ maxLen := by rw [maxLen_eq]; omega
  rw [show ordV (ord (lmat l) l.length) = ordAV (ord (lmat l) l.length) from (ordAV_eq _).symm]
  refine AW.regl false [1, 2, 3] (by rfl) fun K1 hK1 => ?_ -- region 0
  simp only [go_sem, Nat.reduceAdd, Nat.reduceEqDiff, Nat.reduceLeDiff, true_and, List.length_map, len_row, one_row, List.drop_zero, blk_len, dgm_len, port_len, out_len, src_len, file_len, src_get, port_get, out_get, blk_get, dgm_get, file_get, dgm_all, blk_all, src_all, port_all, out_all, file_all]
  refine hK1 _ _ ?_; try clear hK1 K1
  conv => enter [5]; simp only [setL_cons, setL_nil, List.set_cons_zero, List.set_cons_succ]
  refine AW.regl false [4] (by rfl) fun K2 hK2 => ?_ -- region 1
  simp only [go_sem, Nat.reduceAdd, Nat.reduceEqDiff, Nat.reduceLeDiff, true_and, List.length_map, len_row, one_row, List.drop_zero, blk_len, dgm_len, port_len, out_len, src_len, file_len, src_get, port_get, out_get, blk_get, dgm_get, file_get, dgm_all, blk_all, src_all, port_all, out_all, file_all, mkB hn]
  refine hK2 _ _ ?_; try clear hK2 K2
  conv => enter [5]; simp only [setL_cons, setL_nil, List.set_cons_zero, List.set_cons_succ, upd_none, upd_at]
  refine AW.regl false [5] (by rfl) fun K3 hK3 => ?_ -- region 2
  simp only [go_sem, Nat.reduceAdd, Nat.reduceEqDiff, Nat.reduceLeDiff, true_and, List.length_map, len_row, one_row, List.drop_zero, blk_len, dgm_len, port_len, out_len, src_len, file_len, src_get, port_get, out_get, blk_get, dgm_get, file_get, dgm_all, blk_all, src_all, port_all, out_all, file_all]
  refine hK3 _ _ ?_; try clear hK3 K3
  conv => enter [5]; simp only [setL_cons, setL_nil, List.set_cons_zero, List.set_cons_succ]
  refine AW.cap 1 ?_
  try simp only [List.append_assoc, List.cons_append, List.nil_append]
  refine AW.ownT 5 (σ.length + 3) rfl ((app_get _ _ 3).trans rfl) (by decide) ?_
  try simp only [List.set_cons_zero, List.set_cons_succ]
  refine AW.regl false [6] (by rfl) fun K4 hK4 => ?_ -- region 3
  simp only [go_sem, Nat.reduceAdd, Nat.reduceEqDiff, Nat.reduceLeDiff, true_and, List.length_map, len_row, one_row, List.drop_zero, blk_len, dgm_len, port_len, out_len, src_len, file_len, src_get, port_get, out_get, blk_get, dgm_get, file_get, dgm_all, blk_all, src_all, port_all, out_all, file_all]
  refine hK4 _ _ ?_; try clear hK4 K4
  conv => enter [5]; simp only [setL_cons, setL_nil, List.set_cons_zero, List.set_cons_succ]
  refine AW.seq_k fun K5 hK5 => ?_
  refine AW.block ?_
  refine AW.loop_wk (α := List Bool × List Nat) (fun z => [.any, (.ref σ.length 0), .any, .any, (.ref (σ.length + 2) 0), (.slo true 1 (z.2.map natA) (σ.length + 3)), (.fn 54 [.ref (σ.length + 2) 0, .ref σ.length 0]), .any, .any, .any, .any, .any, .any, .any, .any, .any, .any, .any, .any, .any, .any, .any, .any, .any, .any, .any, .any, .any, .any, .any, .any, .any, .any, .any, .any, .any, .any, .any]) (fun z => σ ++ [.cells [rowAV 1 nl (l.map rowN)], .cells (bools z.1), .cells [.osl (σ.length + 1) 0 l.length 1], .cap z.2.length 1]) (fun z => l.length - z.2.length) (fun z => z.1.length = l.length ∧ z.2.length ≤ l.length ∧ ord (lmat l) l.length = ordGo (lmat l) l.length (l.length - z.2.length) z.1 z.2) (List.replicate l.length false, []) ?_ ?_
  · exact ⟨⟨by simp, Nat.zero_le _, rfl⟩, by simp [Wk], rfl⟩
  · rintro ⟨d, out⟩ ⟨hd, ho, hord⟩
    simp only at hd ho hord
    refine AW.seq_k fun K6 hK6 => ?_
    refine AW.regl false [17] (by rfl) fun K7 hK7 => ?_ -- region 4
    simp only [go_sem, Nat.reduceAdd, Nat.reduceEqDiff, Nat.reduceLeDiff, true_and, List.length_map, len_row, one_row, List.drop_zero, blk_len, dgm_len, port_len, out_len, src_len, file_len, src_get, port_get, out_get, blk_get, dgm_get, file_get, dgm_all, blk_all, src_all, port_all, out_all, file_all]
    refine hK7 _ _ ?_; try clear hK7 K7
    conv => enter [5]; simp only [setL_cons, setL_nil, List.set_cons_zero, List.set_cons_succ]
    refine AW.cond rfl (fun hc17 => ?_) (fun hc17 => ?_)
    · skip
      have hlt : out.length < l.length := by simpa using hc17
      refine AW.skip ?_
      refine hK6 _ _ ?_; try clear hK6 K6
      refine AW.block ?_
      refine AW.regl false [7] (by rfl) fun K8 hK8 => ?_ -- region 5
      simp only [go_sem, Nat.reduceAdd, Nat.reduceEqDiff, Nat.reduceLeDiff, true_and, List.length_map, len_row, one_row, List.drop_zero, blk_len, dgm_len, port_len, out_len, src_len, file_len, src_get, port_get, out_get, blk_get, dgm_get, file_get, dgm_all, blk_all, src_all, port_all, out_all, file_all]
      refine hK8 _ _ ?_; try clear hK8 K8
      conv => enter [5]; simp only [setL_cons, setL_nil, List.set_cons_zero, List.set_cons_succ]
      refine AW.seq_k fun K9 hK9 => ?_
      refine AW.regl false [19, 20] (by rfl) fun K10 hK10 => ?_ -- region 6
      simp only [go_sem, Nat.reduceAdd, Nat.reduceEqDiff, Nat.reduceLeDiff, true_and, List.length_map, len_row, one_row, List.drop_zero, blk_len, dgm_len, port_len, out_len, src_len, file_len, src_get, port_get, out_get, blk_get, dgm_get, file_get, dgm_all, blk_all, src_all, port_all, out_all, file_all]
      refine hK10 _ _ ?_; try clear hK10 K10
      conv => enter [5]; simp only [setL_cons, setL_nil, List.set_cons_zero, List.set_cons_succ]
      refine AW.block ?_
      refine AW.loop_wk (α := Nat) (fun i => [.any, (.ref σ.length 0), .any, .any, (.ref (σ.length + 2) 0), (.slo true 1 (out.map natA) (σ.length + 3)), (.fn 54 [.ref (σ.length + 2) 0, .ref σ.length 0]), (i64 (-1)), .any, .any, .any, .any, .any, .any, .any, .any, .any, .any, .any, (.val (.int .i64 ((l.length : Nat) : Int))), (.val (.int .i64 ((i : Nat) : Int))), .any, .any, .any, .any, .any, .any, .any, .any, .any, .any, .any, .any, .any, .any, .any, .any, .any]) (fun i => σ ++ [.cells [rowAV 1 nl (l.map rowN)], .cells (bools d), .cells [.osl (σ.length + 1) 0 l.length 1], .cap out.length 1]) (fun i => l.length - i) (fun i => i ≤ l.length ∧ ∀ j, j < i → rdy (lmat l) l.length d j = false) 0 ?_ ?_
      · exact ⟨⟨Nat.zero_le _, fun j h => absurd h (Nat.not_lt_zero _)⟩, by simp [Wk], rfl⟩
      · rintro i ⟨hi, hz⟩
        refine AW.regl false [21] (by rfl) fun K11 hK11 => ?_ -- region 7
        simp only [go_sem, Nat.reduceAdd, Nat.reduceEqDiff, Nat.reduceLeDiff, true_and, List.length_map, len_row, one_row, List.drop_zero, blk_len, dgm_len, port_len, out_len, src_len, file_len, src_get, port_get, out_get, blk_get, dgm_get, file_get, dgm_all, blk_all, src_all, port_all, out_all, file_all]
        refine hK11 _ _ ?_; try clear hK11 K11
        conv => enter [5]; simp only [setL_cons, setL_nil, List.set_cons_zero, List.set_cons_succ]
        refine AW.seq_k fun K12 hK12 => ?_
        refine AW.cond rfl (fun hc21 => ?_) (fun hc21 => ?_)
        · skip
          have hi1 : i < l.length := by simpa using hc21
          refine AW.skip ?_
          refine hK12 _ _ ?_; try clear hK12 K12
          refine AW.seq_k fun K13 hK13 => ?_
          refine AW.block ?_
          refine AW.regl false [8] (by rfl) fun K14 hK14 => ?_ -- region 8
          simp only [go_sem, Nat.reduceAdd, Nat.reduceEqDiff, Nat.reduceLeDiff, true_and, List.length_map, len_row, one_row, List.drop_zero, blk_len, dgm_len, port_len, out_len, src_len, file_len, src_get, port_get, out_get, blk_get, dgm_get, file_get, dgm_all, blk_all, src_all, port_all, out_all, file_all]
          refine hK14 _ _ ?_; try clear hK14 K14
          conv => enter [5]; simp only [setL_cons, setL_nil, List.set_cons_zero, List.set_cons_succ]
          refine AW.regl false [25] (by rfl) fun K15 hK15 => ?_ -- region 9
          simp only [go_sem, Nat.reduceAdd, Nat.reduceEqDiff, Nat.reduceLeDiff, true_and, List.length_map, len_row, one_row, List.drop_zero, blk_len, dgm_len, port_len, out_len, src_len, file_len, src_get, port_get, out_get, blk_get, dgm_get, file_get, dgm_all, blk_all, src_all, port_all, out_all, file_all]
          refine sC.of en54 (ready_fn l nl d i (σ := σ ++ [.cells [rowAV 1 nl (l.map rowN)], .cells (bools d), .cells [.osl (σ.length + 1) 0 l.length 1], .cap out.length 1]) (o1 := σ.length + 2) (o2 := σ.length) (p := σ.length + 1) (by simp) (by simp) (by simp) hi1 hd hb hx).here (by rfl) ?_
          simp only [go_sem, Nat.reduceAdd, Nat.reduceEqDiff, Nat.reduceLeDiff, true_and, List.length_map, len_row, one_row, List.drop_zero, blk_len, dgm_len, port_len, out_len, src_len, file_len, src_get, port_get, out_get, blk_get, dgm_get, file_get, dgm_all, blk_all, src_all, port_all, out_all, file_all]
          refine hK15 _ _ ?_; try clear hK15 K15
          conv => enter [5]; simp only [setL_cons, setL_nil, List.set_cons_zero, List.set_cons_succ]
          refine AW.cond rfl (fun hc25 => ?_) (fun hc25 => ?_)
          · skip
            have hnx : nxt (lmat l) l.length d = some i := nxt_at hi1 hz hc25
            have hati := at_osl (o := σ.length + 1) (k := .i64) hi1
            have hsz : i + 1 ≤ (bools d).length := by simp [bools]; omega
            have hspi := spl_bool (d := d) (i := i) (by omega) true
            refine AW.regl false [7] (by rfl) fun K16 hK16 => ?_ -- region 10
            simp only [go_sem, Nat.reduceAdd, Nat.reduceEqDiff, Nat.reduceLeDiff, true_and, List.length_map, len_row, one_row, List.drop_zero, blk_len, dgm_len, port_len, out_len, src_len, file_len, src_get, port_get, out_get, blk_get, dgm_get, file_get, dgm_all, blk_all, src_all, port_all, out_all, file_all]
            refine hK16 _ _ ?_; try clear hK16 K16
            conv => enter [5]; simp only [setL_cons, setL_nil, List.set_cons_zero, List.set_cons_succ]
            refine AW.exit ?_
            refine hK9 _ _ ?_; try clear hK9 K9
            refine AW.seq_k fun K17 hK17 => ?_
            refine AW.regl false [29] (by rfl) fun K18 hK18 => ?_ -- region 12
            simp only [go_sem, Nat.reduceAdd, Nat.reduceEqDiff, Nat.reduceLeDiff, true_and, List.length_map, len_row, one_row, List.drop_zero, blk_len, dgm_len, port_len, out_len, src_len, file_len, src_get, port_get, out_get, blk_get, dgm_get, file_get, dgm_all, blk_all, src_all, port_all, out_all, file_all]
            refine hK18 _ _ ?_; try clear hK18 K18
            conv => enter [5]; simp only [setL_cons, setL_nil, List.set_cons_zero, List.set_cons_succ]
            refine AW.cond rfl (fun hc29 => ?_) (fun hc29 => ?_)
            · skip
              exact absurd hc29 (by simp)
            · skip
              refine AW.skip ?_
              refine hK17 _ _ ?_; try clear hK17 K17
              refine AW.regl false [] (by rfl) fun K19 hK19 => ?_ -- region 14
              simp only [go_sem, Nat.reduceAdd, Nat.reduceEqDiff, Nat.reduceLeDiff, true_and, List.length_map, len_row, one_row, List.drop_zero, blk_len, dgm_len, port_len, out_len, src_len, file_len, src_get, port_get, out_get, blk_get, dgm_get, file_get, dgm_all, blk_all, src_all, port_all, out_all, file_all, hati, hspi, if_pos hsz]
              refine hK19 _ _ ?_; try clear hK19 K19
              conv => enter [5]; simp only [setL_cons, setL_nil, List.set_cons_zero, List.set_cons_succ, upd_none, upd_at]
              refine AW.lastl false [5] (by rfl) fun K hK => ?_ -- region 15
              simp only [go_sem, Nat.reduceAdd, Nat.reduceEqDiff, Nat.reduceLeDiff, true_and, List.length_map, len_row, one_row, List.drop_zero, blk_len, dgm_len, port_len, out_len, src_len, file_len, src_get, port_get, out_get, blk_get, dgm_get, file_get, dgm_all, blk_all, src_all, port_all, out_all, file_all, ap_natN (show out.length ≤ 4000 by omega)]
              refine hK _ _ fun env' hw => ?_
              simp only [setL_cons, setL_nil, List.set_cons_zero, List.set_cons_succ] at hw
              refine ⟨(d.set i true, out ++ [i]), by simp; omega, ⟨by simpa using hd, by simp; omega, ?_⟩, ?_, by simp⟩
              · rw [hord, show l.length - out.length = (l.length - (out ++ [i]).length) + 1 by simp; omega, ordGo, hnx]
              · refine hw.trans ?_
                simp [Wk]
          · skip
            have hrd : rdy (lmat l) l.length d i = false := hc25
            refine AW.skip ?_
            refine hK13 _ _ ?_; try clear hK13 K13
            refine AW.lastl false [20] (by rfl) fun K hK => ?_ -- region 11
            simp only [go_sem, Nat.reduceAdd, Nat.reduceEqDiff, Nat.reduceLeDiff, true_and, List.length_map, len_row, one_row, List.drop_zero, blk_len, dgm_len, port_len, out_len, src_len, file_len, src_get, port_get, out_get, blk_get, dgm_get, file_get, dgm_all, blk_all, src_all, port_all, out_all, file_all]
            refine hK _ _ fun env' hw => ?_
            simp only [setL_cons, setL_nil, List.set_cons_zero, List.set_cons_succ] at hw
            refine ⟨i + 1, by omega, ⟨by omega, fun j hj => ?_⟩, ?_, rfl⟩
            · rcases Nat.lt_or_ge j i with h | h
              · exact hz j h
              · rw [show j = i by omega]; exact hrd
            · refine hw.trans ?_
              simp [Wk, wrap_succ hi1 hll]
        · skip
          have hi1 : i = l.length := by
            have : ¬ i < l.length := by simpa using hc21
            omega
          have hnx : nxt (lmat l) l.length d = none := nxt_end fun j hj => hz j (by omega)
          refine AW.exit ?_
          refine hK9 _ _ ?_; try clear hK9 K9
          refine AW.seq_k fun K20 hK20 => ?_
          refine AW.regl false [29] (by rfl) fun K21 hK21 => ?_ -- region 12
          simp only [go_sem, Nat.reduceAdd, Nat.reduceEqDiff, Nat.reduceLeDiff, true_and, List.length_map, len_row, one_row, List.drop_zero, blk_len, dgm_len, port_len, out_len, src_len, file_len, src_get, port_get, out_get, blk_get, dgm_get, file_get, dgm_all, blk_all, src_all, port_all, out_all, file_all]
          refine hK21 _ _ ?_; try clear hK21 K21
          conv => enter [5]; simp only [setL_cons, setL_nil, List.set_cons_zero, List.set_cons_succ]
          refine AW.cond rfl (fun hc29 => ?_) (fun hc29 => ?_)
          · skip
            refine AW.regl false [2, 3] (by rfl) fun K22 hK22 => ?_ -- region 13
            simp only [go_sem, Nat.reduceAdd, Nat.reduceEqDiff, Nat.reduceLeDiff, true_and, List.length_map, len_row, one_row, List.drop_zero, blk_len, dgm_len, port_len, out_len, src_len, file_len, src_get, port_get, out_get, blk_get, dgm_get, file_get, dgm_all, blk_all, src_all, port_all, out_all, file_all]
            refine hK22 _ _ ?_; try clear hK22 K22
            conv => enter [5]; simp only [setL_cons, setL_nil, List.set_cons_zero, List.set_cons_succ]
            refine AW.ret ⟨.inr rfl, _, rfl, by simp, ?_⟩ -- return 1
            rw [hord, show l.length - out.length = (l.length - out.length - 1) + 1 by omega, ordGo, hnx]
            exact .keep rfl
          · skip
            exact absurd hc29 (by simp)
    · skip
      have hlt : out.length = l.length := by
        have : ¬ out.length < l.length := by simpa using hc17
        omega
      refine AW.exit ?_
      refine hK5 _ _ ?_; try clear hK5 K5
      refine AW.regl false [2, 3] (by rfl) fun K23 hK23 => ?_ -- region 16
      simp only [go_sem, Nat.reduceAdd, Nat.reduceEqDiff, Nat.reduceLeDiff, true_and, List.length_map, len_row, one_row, List.drop_zero, blk_len, dgm_len, port_len, out_len, src_len, file_len, src_get, port_get, out_get, blk_get, dgm_get, file_get, dgm_all, blk_all, src_all, port_all, out_all, file_all]
      refine hK23 _ _ ?_; try clear hK23 K23
      conv => enter [5]; simp only [setL_cons, setL_nil, List.set_cons_zero, List.set_cons_succ]
      refine AW.ret ⟨.inr rfl, _, rfl, by simp, ?_⟩ -- return 2
      rw [hord, hlt, Nat.sub_self]
      exact .tup (.cons (frz_row (fun _ _ => rfl) (by omega) out) (.cons (.keep rfl) .nil))
end Fl
end Go.Proofs.Tryd
/-! Flow: one diagram. -/
namespace Go.Proofs.Tryd
set_option linter.unusedSimpArgs false
set_option linter.unusedVariables false
open Go Go.Proofs.Ev
namespace Fl
variable {Γ : List (Nat × List AV)} {w : AV} {G : List (Nat × List AV)}
/-- Nothing is too much to be reckoned. -/
structure SzD (d : Dgm) : Prop where
  ins : d.ins.length ≤ 2000
  outs : d.outs.length ≤ 2000
  blocks : d.blocks.length ≤ 2000
  src : ∀ b ∈ d.blocks, b.src.length ≤ 2000
theorem typed_at {σ : Sto} {ot oty oo om i n : Nat} {nm : AV} {rest tys ords : List AV} (f : FileM) (hT : TyAt σ ot oty om i n (rowAV 4 f.nl (f.ds.map Dgm.enc)) nm (.osl oo 0 n 1 :: rest) tys) (hoo : σ[oo]? = some (.cells ords)) (n3 : om ≠ oo) (d : Dgm) (o : List Nat) (hord : ords[i]? = some (rowN o)) (hol : o.length ≤ 2000) (hok : ∀ k ∈ o, k < d.blocks.length) (hz : SzD d) (hw : ∀ b ∈ d.blocks, WfB f b) (har : ∀ b ∈ d.blocks, b.kind = 7 → (insT f b).length = b.src.length) (hfo : ∀ e ∈ f.ds, e.outs.length ≤ 2000) (τ : Sto) : ACalls prog (GK w G) 53 [.ref ot 0, i64 ((i : Nat) : Int), d.enc] (sm σ om [] ++ τ) (fun v σ' => ∃ M, σ' = sm σ om M ++ τ ∧ v = .val (.bool (typedB f d o)) ∧ (typedB f d o = true → walkM f d (startM d []) o = some M)) := by
  have := typed_calls (w := w) (G := G) f (hT.app τ) (getL hoo τ) n3 d o hord hol hok hz.ins hz.outs hz.blocks hz.src hw har hfo
  rw [sm_app hT.m] at this
  refine this.mono ?_
  rintro v σ' ⟨M, rfl, h⟩
  exact ⟨M, sm_app hT.m _ _, h⟩
theorem sorted2 (d : Dgm) (hz : SzD d) (hin : inB d) : APure prog Γ 29 [.sl 1 ((hangL d).map rowN)] (ordV (ord (lmat (hangL d)) d.blocks.length)) := by
  have := sorted_calls (Γ := Γ) (hangL d) false (by rw [hangL_len]; exact hz.blocks) (hangL_ok hin) (hangL_le hz.src)
  rwa [row_false, hangL_len] at this
theorem sm_keep2 {σ : Sto} {oo om m : Nat} {M M' : MapM} {cs : List AV} (hb : belL m cs = true) (j : Nat) (a : AO) (h : (sm (σ.set oo (.cells cs)) om M')[j]? = some a) : (sm σ om M)[j]? = some a ∨ a.bel m = true := by
  rcases sm_keep (M := M) (m := m) j a h with h | h
  · rw [sm, List.getElem?_set] at h
    rw [sm, List.getElem?_set]
    split at h
    · rename_i e
      rw [if_pos e]
      rw [List.length_set] at h
      exact .inl h
    · rename_i e
      rw [if_neg e]
      rw [List.getElem?_set] at h
      split at h
      · split at h
        · cases h
          exact .inr hb
        · cases h
      · exact .inl h
  · exact .inr h
theorem TyAt.set {σ : Sto} {ot oty om i n oo : Nat} {fc nm : AV} {rest tys : List AV} (h : TyAt σ ot oty om i n fc nm rest tys) (x : AO) (h1 : oo ≠ ot) (h2 : oo ≠ oty) : TyAt (σ.set oo x) ot oty om i n fc nm rest tys :=
  ⟨by rw [List.getElem?_set_ne h1]; exact h.t, by rw [List.getElem?_set_ne h2]; exact h.ty, h.at_, h.len, h.lt, by rw [List.length_set]; exact h.m, h.n1, h.n2⟩
end Fl
end Go.Proofs.Tryd
/-! Flow: three things are made in whatever order. -/
namespace Go.Proofs.Ev
set_option linter.unusedSimpArgs false
set_option linter.unusedVariables false
open Go
variable {F : Fr} {P : Program} {Γ : List (Nat × List AV)}
theorem ARun.one {md : Bool} {ops : Array Oper} {K : Env → Sto → Prop} {o : Oper} {env : Env} {σ σ' : Sto} {v : AV} (hg : o.guard = none) (hop : aop P Γ md σ env o.op = some (v, σ')) (hnc : callVal o.op = false) (hK : K (aput env o.dst v) σ') : ARun P Γ md ops K [o] env σ := by
  have hw : aWanted ops env o = some true := by simp [aWanted, hg]
  unfold ARun
  simp only [hw]
  split
  · rename_i he
    rw [he] at hnc
    simp [callVal] at hnc
  · rw [hop]
    exact hK
end Go.Proofs.Ev
namespace Go.Proofs.Tryd
open Go Go.Proofs.Ev
namespace Fl
variable {Γ : List (Nat × List AV)}
def core (o : Oper) : Option Tmp × Op × Option (Nat × Bool) := (o.dst, o.op, o.guard)
def r4cores : List (Option Tmp × Op × Option (Nat × Bool)) :=
  [(some 23, .load 39 (.tmp 1), none), (some 24, .makeMap 83 none, none), (some 25, .move (.tmp 4), none), (some 26, .makeSlice 84 (.tmp 25) (.tmp 25), none), (some 27, .move (.tmp 4), none), (some 28, .makeSlice 85 (.tmp 27) (.tmp 27), none),
   (some 29, .build 87 #[(0, .tmp 23), (1, .tmp 24), (2, .tmp 26), (3, .tmp 28)], none), (some 30, .box 87 (.tmp 29), none), (some 5, .assign (.tmp 30), none)]
def r4needs : List (List Nat) := [[], [], [], [2], [], [4], [0, 1, 3, 5], [6], [7]]
def needB (l : List Oper) : Bool := (List.range 9).all fun x => match l[x]? with
  | some o => (r4needs.getD x []).all fun e => (edges .any o).contains e
  | none => false
def r4obj (n : Nat) (k : Nat) : AO := if k = 1 then .map [] [] else if k = 3 then .cells (List.replicate n (.val (.map none))) else .cells (List.replicate n .nilsl)
def r4t (f : FileM) (b n : Nat) (p : List Nat) : List AV := [rowAV 4 f.nl (f.ds.map Dgm.enc), .mapo (b + p.idxOf 1), .osl (b + p.idxOf 3) 0 n 1, .osl (b + p.idxOf 5) 0 n 1, .nilsl]
structure R4 (f : FileM) (e : Env) (σ0 : Sto) (n : Nat) (S : Nat → Bool) (p : List Nat) (env : Env) (σ : Sto) : Prop where
  len : env.length = e.length
  same : ∀ j, j ≠ 5 → (j < 23 ∨ 30 < j) → env[j]? = e[j]?
  t23 : S 0 = true → env[23]? = some f.enc
  t25 : S 2 = true → env[25]? = some (i64 ((n : Nat) : Int))
  t27 : S 4 = true → env[27]? = some (i64 ((n : Nat) : Int))
  nd : p.Nodup
  mem : ∀ k, k ∈ p ↔ (k = 1 ∨ k = 3 ∨ k = 5) ∧ S k = true
  t24 : S 1 = true → env[24]? = some (.mapo (σ0.length + p.idxOf 1))
  t26 : S 3 = true → env[26]? = some (.osl (σ0.length + p.idxOf 3) 0 n 1)
  t28 : S 5 = true → env[28]? = some (.osl (σ0.length + p.idxOf 5) 0 n 1)
  m6 : S 6 = true → S 1 = true ∧ S 3 = true ∧ S 5 = true
  m7 : S 7 = true → S 6 = true
  m8 : S 8 = true → S 7 = true
  t29 : S 6 = true → env[29]? = some (.agg (r4t f σ0.length n p))
  t30 : S 7 = true → env[30]? = some (.ref (σ0.length + 3) 0)
  t5 : S 8 = true → env[5]? = some (.ref (σ0.length + 3) 0)
  sto : σ = σ0 ++ (p.map (r4obj n) ++ if S 7 = true then [.cells (r4t f σ0.length n p)] else [])
theorem idx_keep {p : List Nat} {k x : Nat} (h : k ∈ p) : (p ++ [x]).idxOf k = p.idxOf k := by rw [List.idxOf_append, if_pos h]
theorem idx_new {p : List Nat} {k : Nat} (h : k ∉ p) : (p ++ [k]).idxOf k = p.length := by
  rw [List.idxOf_append, if_neg h]
  simp
theorem perm3 {p : List Nat} (hd : p.Nodup) (h : ∀ k, k ∈ p ↔ (k = 1 ∨ k = 3 ∨ k = 5)) : p = [1, 3, 5] ∨ p = [1, 5, 3] ∨ p = [3, 1, 5] ∨ p = [3, 5, 1] ∨ p = [5, 1, 3] ∨ p = [5, 3, 1] := by
  have h1 := (h 1).2 (by simp)
  have h3 := (h 3).2 (by simp)
  have h5 := (h 5).2 (by simp)
  match p, hd, h, h1, h3, h5 with
  | [], _, _, h1, _, _ => cases h1
  | [a], _, _, h1, h3, _ => simp at h1 h3; omega
  | [a, b], _, _, h1, h3, h5 => simp at h1 h3 h5; omega
  | [a, b, c], hd, h, h1, h3, h5 =>
    have ha := (h a).1 (by simp)
    have hb := (h b).1 (by simp)
    have hc := (h c).1 (by simp)
    simp at hd h1 h3 h5
    rcases ha with rfl | rfl | rfl <;> rcases hb with rfl | rfl | rfl <;> rcases hc with rfl | rfl | rfl <;> simp at hd h1 h3 h5 ⊢
  | a :: b :: c :: z :: l, hd, h, _, _, _ =>
    exfalso
    have ha := (h a).1 (by simp)
    have hb := (h b).1 (by simp)
    have hc := (h c).1 (by simp)
    have hz := (h z).1 (by simp)
    simp at hd
    omega
theorem get_put {env : Env} {t : Nat} {v : AV} (h : t < env.length) (j : Nat) : (aput env (some t) v)[j]? = if j = t then some v else env[j]? := by
  simp only [aput, List.getElem?_set]
  by_cases e : t = j
  · subst e; simp [h]
  · rw [if_neg e, if_neg (fun g => e g.symm)]
theorem mkT {n : Nat} (hn : n ≤ 2000) (σ : Sto) (k k1 : IntKind) : aMakeSlice prog σ 84 (.val (.int k (n : Nat))) (.val (.int k1 (n : Nat))) = some (.osl σ.length 0 n 1, σ ++ [.cells (List.replicate n (.val (.map none)))]) := by
  rw [mk84, if_pos ⟨by omega, by simp [fits]; omega⟩, Int.toNat_natCast, Nat.mul_one, aZ]
set_option maxRecDepth 100000 in
set_option maxHeartbeats 2000000 in
theorem r4_step {f : FileM} {e : Env} {σ0 : Sto} {n : Nat} (hn : n ≤ 2000) (he : e.length = 115) {o1 : Nat} (h1 : e[1]? = some (.ref o1 0)) (h4 : e[4]? = some (i64 ((n : Nat) : Int))) (hf : σ0[o1]? = some (.cells f.enc.cells)) {l : List Oper} (hc : l.map core = r4cores) (hnd : needB l = true)
    (S : Nat → Bool) (x : Nat) (o : Oper) (ho : l[x]? = some o) (hS : S x = false) (hE : ∀ y ∈ edges .any o, S y = true) (env : Env) (σ : Sto) (hI : ∃ p, R4 f e σ0 n S p env σ) : ARun prog Γ false l.toArray (fun env' σ' => ∃ p, R4 f e σ0 n (fun j => j == x || S j) p env' σ') [o] env σ := by
  obtain ⟨p, hI⟩ := hI
  have hco : r4cores[x]? = some (core o) := by rw [← hc, List.getElem?_map, ho]; rfl
  have hx : x < 9 := by
    have := (List.getElem?_eq_some_iff.1 hco).1
    simpa [r4cores] using this
  have hneed : ∀ y ∈ r4needs.getD x [], S y = true := by
    intro y hy
    have := List.all_eq_true.1 hnd x (List.mem_range.2 hx)
    rw [ho] at this
    have := List.all_eq_true.1 this y hy
    exact hE y (by simpa using this)
  obtain ⟨dst, op, ty, pos, af, gd⟩ := o
  have hlen : env.length = 115 := by rw [hI.len, he]
  have g1 : env[1]? = some (.ref o1 0) := by rw [hI.same 1 (by omega) (by omega)]; exact h1
  have g4 : env[4]? = some (i64 ((n : Nat) : Int)) := by rw [hI.same 4 (by omega) (by omega)]; exact h4
  have hsame : ∀ (t : Nat) (v : AV), 23 ≤ t → t ≤ 30 → ∀ j, j ≠ 5 → (j < 23 ∨ 30 < j) → (aput env (some t) v)[j]? = e[j]? := fun t v h1 h2 j hj hj2 => by
    rw [get_put (by omega), if_neg (by omega)]
    exact hI.same j hj hj2
  match x, hx, hco, hneed, hS with
  | 0, _, hco, hneed, hS =>
    simp only [r4cores, List.getElem?_cons_zero, List.getElem?_cons_succ, Option.some.injEq, core, Prod.mk.injEq] at hco
    obtain ⟨rfl, rfl, rfl⟩ := hco
    refine ARun.one rfl (v := f.enc) (σ' := σ) ?_ rfl ⟨p, ?_⟩
    · have hl : σ[o1]? = some (.cells f.enc.cells) := by rw [hI.sto]; exact getL hf _
      simp [aop, opnd, List.getD_eq_getElem?_getD, g1, aLoad, hl, file_get]
    · exact ⟨by rw [← hI.len]; simp [aput],
      hsame 23 _ (by omega) (by omega),
      fun _ => by rw [get_put (by omega), if_pos rfl],
      fun h => by rw [get_put (by omega), if_neg (by omega)]; exact hI.t25 (by simpa using h),
      fun h => by rw [get_put (by omega), if_neg (by omega)]; exact hI.t27 (by simpa using h),
      hI.nd,
      fun k => (hI.mem k).trans ⟨fun ⟨h1, h2⟩ => ⟨h1, by simp [h2]⟩, fun ⟨h1, h2⟩ => ⟨h1, by rcases h1 with rfl | rfl | rfl <;> simpa using h2⟩⟩,
      fun h => by rw [get_put (by omega), if_neg (by omega)]; exact hI.t24 (by simpa using h),
      fun h => by rw [get_put (by omega), if_neg (by omega)]; exact hI.t26 (by simpa using h),
      fun h => by rw [get_put (by omega), if_neg (by omega)]; exact hI.t28 (by simpa using h),
      fun h => by obtain ⟨a, b, c⟩ := hI.m6 (by simpa using h); exact ⟨by simp [a], by simp [b], by simp [c]⟩,
      fun h => by have := hI.m7 (by simpa using h); simp [this],
      fun h => by have := hI.m8 (by simpa using h); simp [this],
      fun h => by rw [get_put (by omega), if_neg (by omega)]; exact hI.t29 (by simpa using h),
      fun h => by rw [get_put (by omega), if_neg (by omega)]; exact hI.t30 (by simpa using h),
      fun h => by rw [get_put (by omega), if_neg (by omega)]; exact hI.t5 (by simpa using h),
      by rw [hI.sto]; simp⟩
  | 1, _, hco, hneed, hS =>
    simp only [r4cores, List.getElem?_cons_zero, List.getElem?_cons_succ, Option.some.injEq, core, Prod.mk.injEq] at hco
    obtain ⟨rfl, rfl, rfl⟩ := hco
    have hn6 : ¬ S 6 = true := fun h => by have := (hI.m6 h).1; rw [hS] at this; cases this
    have hn7 : ¬ S 7 = true := fun h => hn6 (hI.m7 h)
    have hsl : σ.length = σ0.length + p.length := by rw [hI.sto, if_neg hn7]; simp
    refine ARun.one rfl (v := .mapo σ.length) (σ' := σ ++ [.map [] []]) ?_ rfl ⟨p ++ [1], ?_⟩
    · rfl
    · exact ⟨by rw [← hI.len]; simp [aput],
      hsame 24 _ (by omega) (by omega),
      fun h => by rw [get_put (by omega), if_neg (by omega)]; exact hI.t23 (by simpa using h),
      fun h => by rw [get_put (by omega), if_neg (by omega)]; exact hI.t25 (by simpa using h),
      fun h => by rw [get_put (by omega), if_neg (by omega)]; exact hI.t27 (by simpa using h),
      (by
      rw [List.nodup_append]
      refine ⟨hI.nd, by simp, fun a ha b hb => ?_⟩
      rw [List.mem_singleton.1 hb]
      rintro rfl
      have := ((hI.mem _).1 ha).2
      rw [hS] at this
      cases this),
      (fun k => by
      rw [List.mem_append, hI.mem k, List.mem_singleton]
      constructor
      · rintro (⟨h1, h2⟩ | rfl)
        · exact ⟨h1, by simp [h2]⟩
        · exact ⟨by omega, by simp⟩
      · rintro ⟨h1, h2⟩
        by_cases e : k = 1
        · exact .inr e
        · exact .inl ⟨h1, by simpa [e] using h2⟩),
      fun _ => by rw [get_put (by omega), if_pos rfl, idx_new (fun h => by have := ((hI.mem 1).1 h).2; rw [hS] at this; cases this), hsl],
      (fun h => by
      have h : S 3 = true := by simpa using h
      rw [get_put (by omega), if_neg (by omega), idx_keep ((hI.mem 3).2 ⟨by omega, h⟩)]
      exact hI.t26 h),
      (fun h => by
      have h : S 5 = true := by simpa using h
      rw [get_put (by omega), if_neg (by omega), idx_keep ((hI.mem 5).2 ⟨by omega, h⟩)]
      exact hI.t28 h),
      fun h => absurd (hn6 (by simpa using h)) id,
      fun h => by have := hI.m7 (by simpa using h); simp [this],
      fun h => by have := hI.m8 (by simpa using h); simp [this],
      fun h => absurd (hn6 (by simpa using h)) id,
      fun h => absurd (hn6 (hI.m7 (by simpa using h))) id,
      fun h => absurd (hn6 (hI.m7 (hI.m8 (by simpa using h)))) id,
      by rw [hI.sto, if_neg hn7, if_neg (by simpa using hn7)]; simp [r4obj]⟩
  | 2, _, hco, hneed, hS =>
    simp only [r4cores, List.getElem?_cons_zero, List.getElem?_cons_succ, Option.some.injEq, core, Prod.mk.injEq] at hco
    obtain ⟨rfl, rfl, rfl⟩ := hco
    refine ARun.one rfl (v := i64 ((n : Nat) : Int)) (σ' := σ) ?_ rfl ⟨p, ?_⟩
    · simp [aop, opnd, List.getD_eq_getElem?_getD, g4]
    · exact ⟨by rw [← hI.len]; simp [aput],
      hsame 25 _ (by omega) (by omega),
      fun h => by rw [get_put (by omega), if_neg (by omega)]; exact hI.t23 (by simpa using h),
      fun _ => by rw [get_put (by omega), if_pos rfl],
      fun h => by rw [get_put (by omega), if_neg (by omega)]; exact hI.t27 (by simpa using h),
      hI.nd,
      fun k => (hI.mem k).trans ⟨fun ⟨h1, h2⟩ => ⟨h1, by simp [h2]⟩, fun ⟨h1, h2⟩ => ⟨h1, by rcases h1 with rfl | rfl | rfl <;> simpa using h2⟩⟩,
      fun h => by rw [get_put (by omega), if_neg (by omega)]; exact hI.t24 (by simpa using h),
      fun h => by rw [get_put (by omega), if_neg (by omega)]; exact hI.t26 (by simpa using h),
      fun h => by rw [get_put (by omega), if_neg (by omega)]; exact hI.t28 (by simpa using h),
      fun h => by obtain ⟨a, b, c⟩ := hI.m6 (by simpa using h); exact ⟨by simp [a], by simp [b], by simp [c]⟩,
      fun h => by have := hI.m7 (by simpa using h); simp [this],
      fun h => by have := hI.m8 (by simpa using h); simp [this],
      fun h => by rw [get_put (by omega), if_neg (by omega)]; exact hI.t29 (by simpa using h),
      fun h => by rw [get_put (by omega), if_neg (by omega)]; exact hI.t30 (by simpa using h),
      fun h => by rw [get_put (by omega), if_neg (by omega)]; exact hI.t5 (by simpa using h),
      by rw [hI.sto]; simp⟩
  | 3, _, hco, hneed, hS =>
    simp only [r4cores, List.getElem?_cons_zero, List.getElem?_cons_succ, Option.some.injEq, core, Prod.mk.injEq] at hco
    obtain ⟨rfl, rfl, rfl⟩ := hco
    have hn6 : ¬ S 6 = true := fun h => by have := (hI.m6 h).2.1; rw [hS] at this; cases this
    have hn7 : ¬ S 7 = true := fun h => hn6 (hI.m7 h)
    have hsl : σ.length = σ0.length + p.length := by rw [hI.sto, if_neg hn7]; simp
    refine ARun.one rfl (v := .osl σ.length 0 n 1) (σ' := σ ++ [.cells (List.replicate n (.val (.map none)))]) ?_ rfl ⟨p ++ [3], ?_⟩
    · have h2 := hI.t25 (hneed 2 (by decide))
      simp only [aop, opnd, List.getD_eq_getElem?_getD, h2, Option.getD_some, mkT hn]
    · exact ⟨by rw [← hI.len]; simp [aput],
      hsame 26 _ (by omega) (by omega),
      fun h => by rw [get_put (by omega), if_neg (by omega)]; exact hI.t23 (by simpa using h),
      fun h => by rw [get_put (by omega), if_neg (by omega)]; exact hI.t25 (by simpa using h),
      fun h => by rw [get_put (by omega), if_neg (by omega)]; exact hI.t27 (by simpa using h),
      (by
      rw [List.nodup_append]
      refine ⟨hI.nd, by simp, fun a ha b hb => ?_⟩
      rw [List.mem_singleton.1 hb]
      rintro rfl
      have := ((hI.mem _).1 ha).2
      rw [hS] at this
      cases this),
      (fun k => by
      rw [List.mem_append, hI.mem k, List.mem_singleton]
      constructor
      · rintro (⟨h1, h2⟩ | rfl)
        · exact ⟨h1, by simp [h2]⟩
        · exact ⟨by omega, by simp⟩
      · rintro ⟨h1, h2⟩
        by_cases e : k = 3
        · exact .inr e
        · exact .inl ⟨h1, by simpa [e] using h2⟩),
      (fun h => by
      have h : S 1 = true := by simpa using h
      rw [get_put (by omega), if_neg (by omega), idx_keep ((hI.mem 1).2 ⟨by omega, h⟩)]
      exact hI.t24 h),
      fun _ => by rw [get_put (by omega), if_pos rfl, idx_new (fun h => by have := ((hI.mem 3).1 h).2; rw [hS] at this; cases this), hsl],
      (fun h => by
      have h : S 5 = true := by simpa using h
      rw [get_put (by omega), if_neg (by omega), idx_keep ((hI.mem 5).2 ⟨by omega, h⟩)]
      exact hI.t28 h),
      fun h => absurd (hn6 (by simpa using h)) id,
      fun h => by have := hI.m7 (by simpa using h); simp [this],
      fun h => by have := hI.m8 (by simpa using h); simp [this],
      fun h => absurd (hn6 (by simpa using h)) id,
      fun h => absurd (hn6 (hI.m7 (by simpa using h))) id,
      fun h => absurd (hn6 (hI.m7 (hI.m8 (by simpa using h)))) id,
      by rw [hI.sto, if_neg hn7, if_neg (by simpa using hn7)]; simp [r4obj]⟩
  | 4, _, hco, hneed, hS =>
    simp only [r4cores, List.getElem?_cons_zero, List.getElem?_cons_succ, Option.some.injEq, core, Prod.mk.injEq] at hco
    obtain ⟨rfl, rfl, rfl⟩ := hco
    refine ARun.one rfl (v := i64 ((n : Nat) : Int)) (σ' := σ) ?_ rfl ⟨p, ?_⟩
    · simp [aop, opnd, List.getD_eq_getElem?_getD, g4]
    · exact ⟨by rw [← hI.len]; simp [aput],
      hsame 27 _ (by omega) (by omega),
      fun h => by rw [get_put (by omega), if_neg (by omega)]; exact hI.t23 (by simpa using h),
      fun h => by rw [get_put (by omega), if_neg (by omega)]; exact hI.t25 (by simpa using h),
      fun _ => by rw [get_put (by omega), if_pos rfl],
      hI.nd,
      fun k => (hI.mem k).trans ⟨fun ⟨h1, h2⟩ => ⟨h1, by simp [h2]⟩, fun ⟨h1, h2⟩ => ⟨h1, by rcases h1 with rfl | rfl | rfl <;> simpa using h2⟩⟩,
      fun h => by rw [get_put (by omega), if_neg (by omega)]; exact hI.t24 (by simpa using h),
      fun h => by rw [get_put (by omega), if_neg (by omega)]; exact hI.t26 (by simpa using h),
      fun h => by rw [get_put (by omega), if_neg (by omega)]; exact hI.t28 (by simpa using h),
      fun h => by obtain ⟨a, b, c⟩ := hI.m6 (by simpa using h); exact ⟨by simp [a], by simp [b], by simp [c]⟩,
      fun h => by have := hI.m7 (by simpa using h); simp [this],
      fun h => by have := hI.m8 (by simpa using h); simp [this],
      fun h => by rw [get_put (by omega), if_neg (by omega)]; exact hI.t29 (by simpa using h),
      fun h => by rw [get_put (by omega), if_neg (by omega)]; exact hI.t30 (by simpa using h),
      fun h => by rw [get_put (by omega), if_neg (by omega)]; exact hI.t5 (by simpa using h),
      by rw [hI.sto]; simp⟩
  | 5, _, hco, hneed, hS =>
    simp only [r4cores, List.getElem?_cons_zero, List.getElem?_cons_succ, Option.some.injEq, core, Prod.mk.injEq] at hco
    obtain ⟨rfl, rfl, rfl⟩ := hco
    have hn6 : ¬ S 6 = true := fun h => by have := (hI.m6 h).2.2; rw [hS] at this; cases this
    have hn7 : ¬ S 7 = true := fun h => hn6 (hI.m7 h)
    have hsl : σ.length = σ0.length + p.length := by rw [hI.sto, if_neg hn7]; simp
    refine ARun.one rfl (v := .osl σ.length 0 n 1) (σ' := σ ++ [.cells (List.replicate n .nilsl)]) ?_ rfl ⟨p ++ [5], ?_⟩
    · have h2 := hI.t27 (hneed 4 (by decide))
      simp only [aop, opnd, List.getD_eq_getElem?_getD, h2, Option.getD_some, mkN hn]
    · exact ⟨by rw [← hI.len]; simp [aput],
      hsame 28 _ (by omega) (by omega),
      fun h => by rw [get_put (by omega), if_neg (by omega)]; exact hI.t23 (by simpa using h),
      fun h => by rw [get_put (by omega), if_neg (by omega)]; exact hI.t25 (by simpa using h),
      fun h => by rw [get_put (by omega), if_neg (by omega)]; exact hI.t27 (by simpa using h),
      (by
      rw [List.nodup_append]
      refine ⟨hI.nd, by simp, fun a ha b hb => ?_⟩
      rw [List.mem_singleton.1 hb]
      rintro rfl
      have := ((hI.mem _).1 ha).2
      rw [hS] at this
      cases this),
      (fun k => by
      rw [List.mem_append, hI.mem k, List.mem_singleton]
      constructor
      · rintro (⟨h1, h2⟩ | rfl)
        · exact ⟨h1, by simp [h2]⟩
        · exact ⟨by omega, by simp⟩
      · rintro ⟨h1, h2⟩
        by_cases e : k = 5
        · exact .inr e
        · exact .inl ⟨h1, by simpa [e] using h2⟩),
      (fun h => by
      have h : S 1 = true := by simpa using h
      rw [get_put (by omega), if_neg (by omega), idx_keep ((hI.mem 1).2 ⟨by omega, h⟩)]
      exact hI.t24 h),
      (fun h => by
      have h : S 3 = true := by simpa using h
      rw [get_put (by omega), if_neg (by omega), idx_keep ((hI.mem 3).2 ⟨by omega, h⟩)]
      exact hI.t26 h),
      fun _ => by rw [get_put (by omega), if_pos rfl, idx_new (fun h => by have := ((hI.mem 5).1 h).2; rw [hS] at this; cases this), hsl],
      fun h => absurd (hn6 (by simpa using h)) id,
      fun h => by have := hI.m7 (by simpa using h); simp [this],
      fun h => by have := hI.m8 (by simpa using h); simp [this],
      fun h => absurd (hn6 (by simpa using h)) id,
      fun h => absurd (hn6 (hI.m7 (by simpa using h))) id,
      fun h => absurd (hn6 (hI.m7 (hI.m8 (by simpa using h)))) id,
      by rw [hI.sto, if_neg hn7, if_neg (by simpa using hn7)]; simp [r4obj]⟩
  | 6, _, hco, hneed, hS =>
    simp only [r4cores, List.getElem?_cons_zero, List.getElem?_cons_succ, Option.some.injEq, core, Prod.mk.injEq] at hco
    obtain ⟨rfl, rfl, rfl⟩ := hco
    refine ARun.one rfl (v := .agg (r4t f σ0.length n p)) (σ' := σ) ?_ rfl ⟨p, ?_⟩
    · have k0 := hI.t23 (hneed 0 (by decide))
      have k1 := hI.t24 (hneed 1 (by decide))
      have k3 := hI.t26 (hneed 3 (by decide))
      have k5 := hI.t28 (hneed 5 (by decide))
      simp only [aop, aPartsOf, List.map_cons, List.map_nil, opnd, List.getD_eq_getElem?_getD, k0, k1, k3, k5, Option.getD_some, FileM.enc]
      simp only [go_sem, one_row, r4t]
      simp
    · exact ⟨by rw [← hI.len]; simp [aput],
      hsame 29 _ (by omega) (by omega),
      fun h => by rw [get_put (by omega), if_neg (by omega)]; exact hI.t23 (by simpa using h),
      fun h => by rw [get_put (by omega), if_neg (by omega)]; exact hI.t25 (by simpa using h),
      fun h => by rw [get_put (by omega), if_neg (by omega)]; exact hI.t27 (by simpa using h),
      hI.nd,
      fun k => (hI.mem k).trans ⟨fun ⟨h1, h2⟩ => ⟨h1, by simp [h2]⟩, fun ⟨h1, h2⟩ => ⟨h1, by rcases h1 with rfl | rfl | rfl <;> simpa using h2⟩⟩,
      fun h => by rw [get_put (by omega), if_neg (by omega)]; exact hI.t24 (by simpa using h),
      fun h => by rw [get_put (by omega), if_neg (by omega)]; exact hI.t26 (by simpa using h),
      fun h => by rw [get_put (by omega), if_neg (by omega)]; exact hI.t28 (by simpa using h),
      fun _ => ⟨by simp [hneed 1 (by decide)], by simp [hneed 3 (by decide)], by simp [hneed 5 (by decide)]⟩,
      fun h => by have := hI.m7 (by simpa using h); simp [this],
      fun h => by have := hI.m8 (by simpa using h); simp [this],
      fun _ => by rw [get_put (by omega), if_pos rfl],
      fun h => by rw [get_put (by omega), if_neg (by omega)]; exact hI.t30 (by simpa using h),
      fun h => by rw [get_put (by omega), if_neg (by omega)]; exact hI.t5 (by simpa using h),
      by rw [hI.sto]; simp⟩
  | 7, _, hco, hneed, hS =>
    simp only [r4cores, List.getElem?_cons_zero, List.getElem?_cons_succ, Option.some.injEq, core, Prod.mk.injEq] at hco
    obtain ⟨rfl, rfl, rfl⟩ := hco
    have h6 := hI.m6 (hneed 6 (by decide))
    have hpl : p.length = 3 := by
      rcases perm3 hI.nd (fun k => (hI.mem k).trans ⟨fun h => h.1, fun h => ⟨h, by rcases h with rfl | rfl | rfl; exact h6.1; exact h6.2.1; exact h6.2.2⟩⟩) with rfl | rfl | rfl | rfl | rfl | rfl <;> rfl
    have hlen3 : σ.length = σ0.length + 3 := by rw [hI.sto, if_neg (by rw [hS]; simp)]; simp [hpl]
    refine ARun.one rfl (v := .ref (σ0.length + 3) 0) (σ' := σ ++ [.cells (r4t f σ0.length n p)]) ?_ rfl ⟨p, ?_⟩
    · have k6 := hI.t29 (hneed 6 (by decide))
      simp only [aop, opnd, List.getD_eq_getElem?_getD, k6, Option.getD_some, hlen3]
      simp only [go_sem, one_row, r4t, hlen3]
    · exact ⟨by rw [← hI.len]; simp [aput],
      hsame 30 _ (by omega) (by omega),
      fun h => by rw [get_put (by omega), if_neg (by omega)]; exact hI.t23 (by simpa using h),
      fun h => by rw [get_put (by omega), if_neg (by omega)]; exact hI.t25 (by simpa using h),
      fun h => by rw [get_put (by omega), if_neg (by omega)]; exact hI.t27 (by simpa using h),
      hI.nd,
      fun k => (hI.mem k).trans ⟨fun ⟨h1, h2⟩ => ⟨h1, by simp [h2]⟩, fun ⟨h1, h2⟩ => ⟨h1, by rcases h1 with rfl | rfl | rfl <;> simpa using h2⟩⟩,
      fun h => by rw [get_put (by omega), if_neg (by omega)]; exact hI.t24 (by simpa using h),
      fun h => by rw [get_put (by omega), if_neg (by omega)]; exact hI.t26 (by simpa using h),
      fun h => by rw [get_put (by omega), if_neg (by omega)]; exact hI.t28 (by simpa using h),
      fun h => by obtain ⟨a, b, c⟩ := hI.m6 (by simpa using h); exact ⟨by simp [a], by simp [b], by simp [c]⟩,
      fun _ => by simp [hneed 6 (by decide)],
      fun h => by have := hI.m8 (by simpa using h); simp [this],
      fun h => by rw [get_put (by omega), if_neg (by omega)]; exact hI.t29 (by simpa using h),
      fun _ => by rw [get_put (by omega), if_pos rfl],
      fun h => by rw [get_put (by omega), if_neg (by omega)]; exact hI.t5 (by simpa using h),
      by rw [hI.sto, if_neg (by rw [hS]; simp), if_pos (by simp)]; simp⟩
  | 8, _, hco, hneed, hS =>
    simp only [r4cores, List.getElem?_cons_zero, List.getElem?_cons_succ, Option.some.injEq, core, Prod.mk.injEq] at hco
    obtain ⟨rfl, rfl, rfl⟩ := hco
    refine ARun.one rfl (v := .ref (σ0.length + 3) 0) (σ' := σ) ?_ rfl ⟨p, ?_⟩
    · have k7 := hI.t30 (hneed 7 (by decide))
      simp [aop, opnd, List.getD_eq_getElem?_getD, k7]
    · exact ⟨by rw [← hI.len]; simp [aput],
      fun j h5 hj => by rw [get_put (by omega), if_neg h5]; exact hI.same j h5 hj,
      fun h => by rw [get_put (by omega), if_neg (by omega)]; exact hI.t23 (by simpa using h),
      fun h => by rw [get_put (by omega), if_neg (by omega)]; exact hI.t25 (by simpa using h),
      fun h => by rw [get_put (by omega), if_neg (by omega)]; exact hI.t27 (by simpa using h),
      hI.nd,
      fun k => (hI.mem k).trans ⟨fun ⟨h1, h2⟩ => ⟨h1, by simp [h2]⟩, fun ⟨h1, h2⟩ => ⟨h1, by rcases h1 with rfl | rfl | rfl <;> simpa using h2⟩⟩,
      fun h => by rw [get_put (by omega), if_neg (by omega)]; exact hI.t24 (by simpa using h),
      fun h => by rw [get_put (by omega), if_neg (by omega)]; exact hI.t26 (by simpa using h),
      fun h => by rw [get_put (by omega), if_neg (by omega)]; exact hI.t28 (by simpa using h),
      fun h => by obtain ⟨a, b, c⟩ := hI.m6 (by simpa using h); exact ⟨by simp [a], by simp [b], by simp [c]⟩,
      fun h => by have := hI.m7 (by simpa using h); simp [this],
      fun _ => by simp [hneed 7 (by decide)],
      fun h => by rw [get_put (by omega), if_neg (by omega)]; exact hI.t29 (by simpa using h),
      fun h => by rw [get_put (by omega), if_neg (by omega)]; exact hI.t30 (by simpa using h),
      fun _ => by rw [get_put (by omega), if_pos rfl],
      by rw [hI.sto]; simp⟩
  | k + 9, hx, _, _, _ => exact absurd hx (by omega)
theorem renL_bel (o p n : Nat) (h : n ≤ o) : (∀ c : AV, c.bel n = true → c.ren o p = c) ∧ ∀ l : List AV, belL n l = true → renL o p l = l := by
  have main : ∀ (k : Nat), (∀ c : AV, SizeOf.sizeOf c < k → c.bel n = true → c.ren o p = c) ∧ ∀ l : List AV, SizeOf.sizeOf l < k → belL n l = true → renL o p l = l := by
    intro k
    induction k with
    | zero => exact ⟨fun _ h => absurd h (Nat.not_lt_zero _), fun _ h => absurd h (Nat.not_lt_zero _)⟩
    | succ k ih =>
      refine ⟨fun c hc hb => ?_, fun l hl hb => ?_⟩
      · cases c with
        | any => rfl
        | val v => rfl
        | nilsl => rfl
        | agg cs => simp only [AV.ren]; rw [ih.2 cs (by simp at hc; omega) (by simpa [AV.bel] using hb)]
        | tup cs => simp only [AV.ren]; rw [ih.2 cs (by simp at hc; omega) (by simpa [AV.bel] using hb)]
        | sl z cs => simp only [AV.ren]; rw [ih.2 cs (by simp at hc; omega) (by simpa [AV.bel] using hb)]
        | slf z cs => simp only [AV.ren]; rw [ih.2 cs (by simp at hc; omega) (by simpa [AV.bel] using hb)]
        | slo nl z cs q => simp only [AV.ren]; rw [ih.2 cs (by simp at hc; omega) (by simp [AV.bel] at hb; exact hb.2)]
        | er cs => simp only [AV.ren]; rw [ih.2 cs (by simp at hc; omega) (by simpa [AV.bel] using hb)]
        | fn f cs => simp only [AV.ren]; rw [ih.2 cs (by simp at hc; omega) (by simpa [AV.bel] using hb)]
        | mapf ks cs => simp only [AV.ren]; rw [ih.2 cs (by simp at hc; omega) (by simpa [AV.bel] using hb)]
        | ifc t v => simp only [AV.ren]; rw [ih.1 v (by simp at hc; omega) (by simpa [AV.bel] using hb)]
        | ref q off => simp [AV.bel] at hb; simp only [AV.ren, rn]; rw [if_neg (by omega)]
        | osl q off l z => simp [AV.bel] at hb; simp only [AV.ren, rn]; rw [if_neg (by omega)]
        | mapo q => simp [AV.bel] at hb; simp only [AV.ren, rn]; rw [if_neg (by omega)]
        | yl q => simp [AV.bel] at hb; simp only [AV.ren, rn]; rw [if_neg (by omega)]
      · cases l with
        | nil => rfl
        | cons c l =>
          simp only [belL, Bool.and_eq_true] at hb
          simp only [renL]
          rw [ih.1 c (by simp at hl; omega) hb.1, ih.2 l (by simp at hl; omega) hb.2]
  exact ⟨fun c hc => (main (SizeOf.sizeOf c + 1)).1 c (Nat.lt_succ_self _) hc, fun l hl => (main (SizeOf.sizeOf l + 1)).2 l (Nat.lt_succ_self _) hl⟩
theorem renL_set (o p : Nat) (v : AV) : ∀ (l : List AV) (i : Nat), renL o p (l.set i v) = (renL o p l).set i (v.ren o p)
  | [], _ => rfl
  | c :: l, 0 => rfl
  | c :: l, i + 1 => by simp only [List.set_cons_succ, renL, renL_set o p v l i]
/-- The types, empty, where they come to lie. -/
def r4sto (f : FileM) (σ0 : Sto) (n : Nat) : Sto := σ0 ++ [.dead, .dead, .dead, .cells [rowAV 4 f.nl (f.ds.map Dgm.enc), .mapo (σ0.length + 4), .osl (σ0.length + 5) 0 n 1, .osl (σ0.length + 6) 0 n 1, .nilsl], .map [] [], .cells (List.replicate n (.val (.map none))), .cells (List.replicate n .nilsl)]
theorem row_ren (f : FileM) (o p : Nat) : (rowAV 4 f.nl (f.ds.map Dgm.enc)).ren o p = rowAV 4 f.nl (f.ds.map Dgm.enc) := (renL_bel o p 0 (Nat.zero_le _)).1 _ (row_bel dgm_bel _ _ _ _)
theorem rep_ren (o p n : Nat) (v : AV) (h : v.ren o p = v) : renL o p (List.replicate n v) = List.replicate n v := by
  rw [renL_map, List.map_replicate, h]
theorem mv1 {F : Fr} {e : Env} {σ0 : Sto} {y : Code} {Q : Exit → Env → Sto → Prop} (hbe : belL σ0.length e = true) (i : Nat) {L : Sto} {a : AO} (hi : L[i]? = some a) (h1 : a.isCap = false) (h2 : a ≠ .dfr) (hi3 : i ≠ 3)
    (h : AW F prog Γ y (e.set 5 (.ref (σ0.length + 3) 0)) (σ0 ++ ((L.set i .dead).map (AO.ren (σ0.length + i) (σ0.length + L.length)) ++ [a.ren (σ0.length + i) (σ0.length + L.length)])) Q) : AW F prog Γ y (e.set 5 (.ref (σ0.length + 3) 0)) (σ0 ++ L) Q := by
  refine AW.move σ0.length (σ0.length + i) (a := a) (by rw [app_get]; exact hi) h1 h2 ?_
  rw [renL_set, (renL_bel _ _ σ0.length (Nat.le_add_right _ _)).2 e hbe, app_set, renFrom_app, List.length_append, List.append_assoc]
  have : (AV.ref (σ0.length + 3) 0).ren (σ0.length + i) (σ0.length + L.length) = .ref (σ0.length + 3) 0 := by
    simp only [AV.ren, rn]
    rw [if_neg (by omega)]
  rw [this]
  exact h
set_option maxHeartbeats 2000000 in
theorem r4_move {F : Fr} {f : FileM} {e : Env} {σ0 : Sto} {n : Nat} {y : Code} {Q : Exit → Env → Sto → Prop} (hbe : belL σ0.length e = true) {p : List Nat} (hp : p = [1, 3, 5] ∨ p = [1, 5, 3] ∨ p = [3, 1, 5] ∨ p = [3, 5, 1] ∨ p = [5, 1, 3] ∨ p = [5, 3, 1]) (k : AW F prog Γ y (e.set 5 (.ref (σ0.length + 3) 0)) (r4sto f σ0 n) Q) :
    AW F prog Γ y (e.set 5 (.ref (σ0.length + 3) 0)) (σ0 ++ (p.map (r4obj n) ++ [.cells (r4t f σ0.length n p)])) Q := by
  have hr1 : ∀ o q, renL o q (List.replicate n (.val (.map none))) = List.replicate n (.val (.map none)) := fun o q => rep_ren o q n _ rfl
  have hr2 : ∀ o q, renL o q (List.replicate n .nilsl) = List.replicate n .nilsl := fun o q => rep_ren o q n _ rfl
  unfold r4sto at k
  rcases hp with rfl | rfl | rfl | rfl | rfl | rfl
  · refine mv1 hbe 0 (a := .map [] []) (by simp [r4obj]) rfl (by simp) (by decide) ?_
    simp [r4obj, r4t, AO.ren, renL, row_ren, AV.ren, rn, hr1, hr2, List.idxOf_cons]
    refine mv1 hbe 1 (a := .cells (List.replicate n (.val (.map none)))) (by simp [r4obj]) rfl (by simp) (by decide) ?_
    simp [r4obj, r4t, AO.ren, renL, row_ren, AV.ren, rn, hr1, hr2, List.idxOf_cons]
    refine mv1 hbe 2 (a := .cells (List.replicate n .nilsl)) (by simp [r4obj]) rfl (by simp) (by decide) ?_
    simp [r4obj, r4t, AO.ren, renL, row_ren, AV.ren, rn, hr1, hr2, List.idxOf_cons]
    exact k
  · refine mv1 hbe 0 (a := .map [] []) (by simp [r4obj]) rfl (by simp) (by decide) ?_
    simp [r4obj, r4t, AO.ren, renL, row_ren, AV.ren, rn, hr1, hr2, List.idxOf_cons]
    refine mv1 hbe 2 (a := .cells (List.replicate n (.val (.map none)))) (by simp [r4obj]) rfl (by simp) (by decide) ?_
    simp [r4obj, r4t, AO.ren, renL, row_ren, AV.ren, rn, hr1, hr2, List.idxOf_cons]
    refine mv1 hbe 1 (a := .cells (List.replicate n .nilsl)) (by simp [r4obj]) rfl (by simp) (by decide) ?_
    simp [r4obj, r4t, AO.ren, renL, row_ren, AV.ren, rn, hr1, hr2, List.idxOf_cons]
    exact k
  · refine mv1 hbe 1 (a := .map [] []) (by simp [r4obj]) rfl (by simp) (by decide) ?_
    simp [r4obj, r4t, AO.ren, renL, row_ren, AV.ren, rn, hr1, hr2, List.idxOf_cons]
    refine mv1 hbe 0 (a := .cells (List.replicate n (.val (.map none)))) (by simp [r4obj]) rfl (by simp) (by decide) ?_
    simp [r4obj, r4t, AO.ren, renL, row_ren, AV.ren, rn, hr1, hr2, List.idxOf_cons]
    refine mv1 hbe 2 (a := .cells (List.replicate n .nilsl)) (by simp [r4obj]) rfl (by simp) (by decide) ?_
    simp [r4obj, r4t, AO.ren, renL, row_ren, AV.ren, rn, hr1, hr2, List.idxOf_cons]
    exact k
  · refine mv1 hbe 2 (a := .map [] []) (by simp [r4obj]) rfl (by simp) (by decide) ?_
    simp [r4obj, r4t, AO.ren, renL, row_ren, AV.ren, rn, hr1, hr2, List.idxOf_cons]
    refine mv1 hbe 0 (a := .cells (List.replicate n (.val (.map none)))) (by simp [r4obj]) rfl (by simp) (by decide) ?_
    simp [r4obj, r4t, AO.ren, renL, row_ren, AV.ren, rn, hr1, hr2, List.idxOf_cons]
    refine mv1 hbe 1 (a := .cells (List.replicate n .nilsl)) (by simp [r4obj]) rfl (by simp) (by decide) ?_
    simp [r4obj, r4t, AO.ren, renL, row_ren, AV.ren, rn, hr1, hr2, List.idxOf_cons]
    exact k
  · refine mv1 hbe 1 (a := .map [] []) (by simp [r4obj]) rfl (by simp) (by decide) ?_
    simp [r4obj, r4t, AO.ren, renL, row_ren, AV.ren, rn, hr1, hr2, List.idxOf_cons]
    refine mv1 hbe 2 (a := .cells (List.replicate n (.val (.map none)))) (by simp [r4obj]) rfl (by simp) (by decide) ?_
    simp [r4obj, r4t, AO.ren, renL, row_ren, AV.ren, rn, hr1, hr2, List.idxOf_cons]
    refine mv1 hbe 0 (a := .cells (List.replicate n .nilsl)) (by simp [r4obj]) rfl (by simp) (by decide) ?_
    simp [r4obj, r4t, AO.ren, renL, row_ren, AV.ren, rn, hr1, hr2, List.idxOf_cons]
    exact k
  · refine mv1 hbe 2 (a := .map [] []) (by simp [r4obj]) rfl (by simp) (by decide) ?_
    simp [r4obj, r4t, AO.ren, renL, row_ren, AV.ren, rn, hr1, hr2, List.idxOf_cons]
    refine mv1 hbe 1 (a := .cells (List.replicate n (.val (.map none)))) (by simp [r4obj]) rfl (by simp) (by decide) ?_
    simp [r4obj, r4t, AO.ren, renL, row_ren, AV.ren, rn, hr1, hr2, List.idxOf_cons]
    refine mv1 hbe 0 (a := .cells (List.replicate n .nilsl)) (by simp [r4obj]) rfl (by simp) (by decide) ?_
    simp [r4obj, r4t, AO.ren, renL, row_ren, AV.ren, rn, hr1, hr2, List.idxOf_cons]
    exact k
theorem AW.r4 {F : Fr} (hm : prog.follows .mixedOrders = true) {f : FileM} {e : Env} {σ0 : Sto} {n : Nat} (hn : n ≤ 2000) (he : e.length = 115) {o1 : Nat} (h1 : e[1]? = some (.ref o1 0)) (h4 : e[4]? = some (i64 ((n : Nat) : Int))) (hf : σ0[o1]? = some (.cells f.enc.cells)) (hany : ∀ j, 23 ≤ j → j ≤ 30 → e[j]? = some .any) (hbe : belL σ0.length e = true) {id : Nat} {l : List Oper} (hc : l.map core = r4cores) (hw : fwdB l = true) (hnd : needB l = true) {y : Code} {Q : Exit → Env → Sto → Prop}
    (k : AW F prog Γ y (e.set 5 (.ref (σ0.length + 3) 0)) (r4sto f σ0 n) Q) : AW F prog Γ (.seq (.region id l.toArray true) y) e σ0 Q := by
  refine AW.seq (AW.draw hm (ADraw.any false (fun S env σ => ∃ p, R4 f e σ0 n S p env σ) hw ⟨[], ?_⟩ (fun S x o ho hS hE env σ hI => r4_step hn he h1 h4 hf hc hnd S x o ho hS hE env σ hI) ?_))
  · exact ⟨rfl, fun _ _ _ => rfl, (fun h => by cases h), (fun h => by cases h), (fun h => by cases h), List.nodup_nil, fun k => by simp, (fun h => by cases h), (fun h => by cases h), (fun h => by cases h), (fun h => by cases h), (fun h => by cases h), (fun h => by cases h), (fun h => by cases h), (fun h => by cases h), (fun h => by cases h), by simp⟩
  · rintro S env σ hS ⟨p, hI⟩
    have hl : l.length = 9 := by
      have := congrArg List.length hc
      simpa [r4cores] using this
    have hall : ∀ j, j < 9 → S j = true := fun j hj => hS j (by omega)
    have hp := perm3 hI.nd (fun k => (hI.mem k).trans ⟨fun h => h.1, fun h => ⟨h, hall k (by omega)⟩⟩)
    refine AW.weaken (env' := e.set 5 (.ref (σ0.length + 3) 0)) (wk_of (by rw [hI.len]; simp) fun j => ?_) ?_
    · by_cases h5 : j = 5
      · subst h5
        right
        rw [List.getD_eq_getElem?_getD, List.getD_eq_getElem?_getD, hI.t5 (hall 8 (by omega)), List.getElem?_set_self (by omega)]
      · rw [List.getD_eq_getElem?_getD, List.getD_eq_getElem?_getD, List.getElem?_set_ne (fun h => h5 h.symm)]
        by_cases hj : 23 ≤ j ∧ j ≤ 30
        · left
          rw [hany j hj.1 hj.2]
          rfl
        · right
          rw [hI.same j h5 (by omega)]
    · rw [hI.sto, if_pos (hall 7 (by omega))]
      exact r4_move hbe hp k
end Fl
end Go.Proofs.Tryd
