import Derived.Test.YteekpkbmkibacaaDoorDiagK
import Derived.Test.YteekpkbmkibacaaDoorDiagK
/-! Whether two files are the same, as the document says. -/
namespace Go.Proofs.Tryd
set_option linter.unusedSimpArgs false
set_option linter.unusedVariables false
open Go Go.Proofs.Ev
variable {Γ : List (Nat × List AV)}
set_option maxRecDepth 100000 in
set_option maxHeartbeats 4000000 in
theorem rsame_calls (a b : FileM) (ha : a.small) : APure prog Γ 28 [a.enc, b.enc] (.val (.bool (decide (a.key = b.key)))) := by
  refine APure.of func28 rfl fun σ => ?_
  simp only [ntmps28, List.length_cons, List.length_nil, Nat.reduceAdd, Nat.reduceSub, List.replicate_succ, List.replicate_zero, List.cons_append, List.nil_append]
  refine AW.regl false [2, 3, 4] (by rfl) fun K1 hK1 => ?_ -- region 0
  simp only [go_sem, Nat.reduceAdd, Nat.reduceEqDiff, Nat.reduceLeDiff, true_and, List.length_map, rdgm_get, dgm_all, file_all, blk_all, rfile_get, rsrc_get, rblk_get, rport_get, rout_get]
  refine hK1 _ _ ?_; try clear hK1 K1
  conv => enter [4]; simp only [setL_cons, setL_nil, List.set_cons_zero, List.set_cons_succ]
  refine AW.seq_k fun K2 hK2 => ?_
  refine AW.regl false [20] (by rfl) fun K3 hK3 => ?_ -- region 1
  simp only [go_sem, Nat.reduceAdd, Nat.reduceEqDiff, Nat.reduceLeDiff, true_and, List.length_map, rdgm_get, dgm_all, file_all, blk_all, rfile_get, rsrc_get, rblk_get, rport_get, rout_get, FileM.enc]
  refine hK3 _ _ ?_; try clear hK3 K3
  conv => enter [4]; simp only [setL_cons, setL_nil, List.set_cons_zero, List.set_cons_succ]
  refine AW.cond rfl (fun hc20 => ?_) (fun hc20 => ?_)
  · skip
    refine AW.regl false [4] (by rfl) fun K4 hK4 => ?_ -- region 2
    simp only [go_sem, Nat.reduceAdd, Nat.reduceEqDiff, Nat.reduceLeDiff, true_and, List.length_map, rdgm_get, dgm_all, file_all, blk_all, rfile_get, rsrc_get, rblk_get, rport_get, rout_get]
    refine hK4 _ _ ?_; try clear hK4 K4
    conv => enter [4]; simp only [setL_cons, setL_nil, List.set_cons_zero, List.set_cons_succ]
    refine AW.ret ⟨.inr rfl, _, rfl, by simp, ?_⟩ -- return 1
    refine frzB ?_
    refine (decide_eq_false fun e => ?_).symm
    have := map_len (key := Dgm.key) (l := a.ds) (l' := b.ds) e
    simp [this] at hc20
  · skip
    have hl0 : a.ds.length = b.ds.length := by have : (a.ds.length : Int) = b.ds.length := by simpa using hc20
                                               omega
    refine AW.skip ?_
    refine hK2 _ _ ?_; try clear hK2 K2
    refine AW.seq_k fun K5 hK5 => ?_
    refine AW.regl false [5] (by rfl) fun K6 hK6 => ?_ -- region 3
    simp only [go_sem, Nat.reduceAdd, Nat.reduceEqDiff, Nat.reduceLeDiff, true_and, List.length_map, rdgm_get, dgm_all, file_all, blk_all, rfile_get, rsrc_get, rblk_get, rport_get, rout_get]
    refine hK6 _ _ ?_; try clear hK6 K6
    conv => enter [4]; simp only [setL_cons, setL_nil, List.set_cons_zero, List.set_cons_succ]
    refine AW.block ?_
    -- LIVE but not told: [44, 45, 46, 47, 48, 49, 50, 53, 54, 55, 56, 57, 58, 59, 62, 63, 64, 65, 66, 67, 68, 129, 130, 131, 132, 133, 136, 137, 138, 139, 140, 143, 144, 145, 146, 147, 150, 151, 152, 153, 154, 157, 158, 159, 160, 161, 164, 165, 166, 167, 168, 169, 170]
    refine AW.loop_dr (α := Nat) (fun i => [.any, .any, (.ref σ.length 0), (.ref (σ.length + 1) 0), .any, (.val (.int .i64 (i : Nat))), .any, .any, .any, .any, .any, .any, .any, .any, .any, .any, .any, .any, .any, .any, .any, .any, .any, .any, .any, .any, .any, .any, .any, .any, .any, .any, .any, .any, .any, .any, .any, .any, .any, .any, .any, .any, .any, .any, .any, .any, .any, .any, .any, .any, .any, .any, .any, .any, .any, .any, .any, .any, .any, .any, .any, .any, .any, .any, .any, .any, .any, .any, .any, .any, .any, .any, .any, .any, .any, .any, .any, .any, .any, .any, .any, .any, .any, .any, .any, .any, .any, .any, .any, .any, .any, .any, .any, .any, .any, .any, .any, .any, .any, .any, .any, .any, .any, .any, .any, .any, .any, .any, .any, .any, .any, .any, .any, .any, .any, .any, .any, .any, .any, .any, .any, .any, .any, .any, .any, .any, .any, .any, .any, .any, .any, .any, .any, .any, .any, .any, .any, .any, .any, .any, .any, .any, .any, .any, .any, .any, .any, .any, .any, .any, .any, .any, .any, .any, .any, .any, .any, .any, .any, .any, .any, .any, .any, .any, .any, .any, .any, .any, .any, .any, .any, .any, .any, .any, .any, .any, .any, .any, .any, .any, .any, .any, .any, .any, .any, .any, .any, .any, .any, .any]) (fun i => σ ++ [.cells a.enc.cells, .cells b.enc.cells]) (fun i => a.ds.length - i) (fun i => i ≤ a.ds.length ∧ (a.ds.take i).map Dgm.key = (b.ds.take i).map Dgm.key) 0 ?_ ?_ ?_
    · exact ⟨⟨Nat.zero_le _, rfl⟩, by simp [Wk], rfl⟩
    · exact fun y _ => ⟨by simp [belL, AV.bel], bel_one⟩
    · rintro i ⟨hi, hit⟩
      refine AW.seq_k fun K7 hK7 => ?_
      refine AW.regl false [25] (by rfl) fun K8 hK8 => ?_ -- region 4
      simp only [go_sem, Nat.reduceAdd, Nat.reduceEqDiff, Nat.reduceLeDiff, true_and, List.length_map, rdgm_get, dgm_all, file_all, blk_all, rfile_get, rsrc_get, rblk_get, rport_get, rout_get, FileM.enc]
      refine hK8 _ _ ?_; try clear hK8 K8
      conv => enter [4]; simp only [setL_cons, setL_nil, List.set_cons_zero, List.set_cons_succ]
      refine AW.cond rfl (fun hc25 => ?_) (fun hc25 => ?_)
      · skip
        have hi1 : i < a.ds.length := by simpa using hc25
        have hi2 : i < b.ds.length := by rw [← hl0]; exact hi1
        obtain ⟨x, hxi⟩ : ∃ z, z = a.ds[i] := ⟨_, rfl⟩
        obtain ⟨y, hyi⟩ : ∃ z, z = b.ds[i] := ⟨_, rfl⟩
        have gxi : (a.ds.map Dgm.enc)[i]? = some x.enc := by rw [hxi]; simp [hi1]
        have gyi : (b.ds.map Dgm.enc)[i]? = some y.enc := by rw [hyi]; simp [hi2]
        obtain ⟨k1, k2, k3, k4, k5⟩ := ha.2 x (by rw [hxi]; exact List.getElem_mem hi1)
        have hs1 := ha.1
        refine AW.skip ?_
        refine hK7 _ _ ?_; try clear hK7 K7
        refine AW.seq_k fun K9 hK9 => ?_
        refine AW.block ?_
        refine AW.regal mixed false [6, 7] 12 10 11 6 7 (by kernel_rfl) (by kernel_rfl) (by rfl) (by kernel_rfl) (by kernel_rfl) (by rfl) (by rfl) (by rfl) (hz_of zero107 rfl) (fun _ => rfl) fun K10 hK10 => ?_ -- region 6
        simp only [go_sem, Nat.reduceAdd, Nat.reduceEqDiff, Nat.reduceLeDiff, true_and, List.length_map, rdgm_get, dgm_all, file_all, blk_all, rfile_get, rsrc_get, rblk_get, rport_get, rout_get, FileM.enc, at_row gxi, at_row gyi, dgm_len, List.append_assoc, List.cons_append, List.nil_append, Nat.add_assoc, upd_none]
        refine hK10 _ _ ?_; try clear hK10 K10
        conv => enter [4]; simp only [setL_cons, setL_nil, List.set_cons_zero, List.set_cons_succ, upd_none, upd_at]
        refine AW.seq_k fun K11 hK11 => ?_
        -- LIVE [44, 45, 46, 47, 48, 49, 50, 53, 54, 55, 56, 57, 58, 59, 62, 63, 64, 65, 66, 67, 68, 69]
        refine AW.regtf false 69 (.val (.bool (((!decide (x.name = y.name) || (x.ins.length : Int) != (y.ins.length : Int)) || (x.outs.length : Int) != (y.outs.length : Int)) || (x.blocks.length : Int) != (y.blocks.length : Int)))) (by rfl) ?_ ?_ -- region 7
        · skip
          cases h42 : (!decide (x.name = y.name))
          · skip
            cases h50 : ((x.ins.length : Int) != (y.ins.length : Int))
            · skip
              cases h59 : ((x.outs.length : Int) != (y.outs.length : Int))
              · skip
                simp only [go_sem, Nat.reduceAdd, Nat.reduceEqDiff, Nat.reduceLeDiff, true_and, List.length_map, rdgm_get, dgm_all, file_all, blk_all, rfile_get, rsrc_get, rblk_get, rport_get, rout_get, Dgm.enc, ba_beqL, h42, h50, h59]
                try simp [upd_at, h42, h50, h59, List.length_map, rdgm_get, dgm_all, file_all, blk_all, rfile_get, rsrc_get, rblk_get, rport_get, rout_get, Dgm.enc, ba_beqL]
              · skip
                simp only [go_sem, Nat.reduceAdd, Nat.reduceEqDiff, Nat.reduceLeDiff, true_and, List.length_map, rdgm_get, dgm_all, file_all, blk_all, rfile_get, rsrc_get, rblk_get, rport_get, rout_get, Dgm.enc, ba_beqL, h42, h50, h59]
                try simp [upd_at, h42, h50, h59, List.length_map, rdgm_get, dgm_all, file_all, blk_all, rfile_get, rsrc_get, rblk_get, rport_get, rout_get, Dgm.enc, ba_beqL]
            · skip
              simp only [go_sem, Nat.reduceAdd, Nat.reduceEqDiff, Nat.reduceLeDiff, true_and, List.length_map, rdgm_get, dgm_all, file_all, blk_all, rfile_get, rsrc_get, rblk_get, rport_get, rout_get, Dgm.enc, ba_beqL, h42, h50]
              try simp [upd_at, h42, h50, List.length_map, rdgm_get, dgm_all, file_all, blk_all, rfile_get, rsrc_get, rblk_get, rport_get, rout_get, Dgm.enc, ba_beqL]
          · skip
            simp only [go_sem, Nat.reduceAdd, Nat.reduceEqDiff, Nat.reduceLeDiff, true_and, List.length_map, rdgm_get, dgm_all, file_all, blk_all, rfile_get, rsrc_get, rblk_get, rport_get, rout_get, Dgm.enc, ba_beqL, h42]
            try simp [upd_at, h42, List.length_map, rdgm_get, dgm_all, file_all, blk_all, rfile_get, rsrc_get, rblk_get, rport_get, rout_get, Dgm.enc, ba_beqL]
        conv => enter [4]; simp only [List.set_cons_zero, List.set_cons_succ]
        refine AW.cond rfl (fun hc69 => ?_) (fun hc69 => ?_)
        · skip
          refine AW.regl false [4] (by rfl) fun K13 hK13 => ?_ -- region 8
          simp only [go_sem, Nat.reduceAdd, Nat.reduceEqDiff, Nat.reduceLeDiff, true_and, List.length_map, rdgm_get, dgm_all, file_all, blk_all, rfile_get, rsrc_get, rblk_get, rport_get, rout_get]
          refine hK13 _ _ ?_; try clear hK13 K13
          conv => enter [4]; simp only [setL_cons, setL_nil, List.set_cons_zero, List.set_cons_succ]
          refine AW.ret ⟨.inr rfl, _, rfl, by simp, ?_⟩ -- return 2
          refine frzB ?_
          refine (file_ne hi1 hi2 ?_).symm
          rw [← hxi, ← hyi]
          intro e
          obtain ⟨e1, e2, e3, e4⟩ := dgm_key.1 e
          simp [e1, map_len e2, map_len e3, map_len e4] at hc69
        · skip
          have hN : x.name = y.name ∧ x.ins.length = y.ins.length ∧ x.outs.length = y.outs.length ∧ x.blocks.length = y.blocks.length := by
            simp only [Bool.or_eq_false_iff, bne_eq_false_iff_eq, Bool.not_eq_false', decide_eq_true_eq] at hc69
            obtain ⟨⟨⟨g1, g2⟩, g3⟩, g4⟩ := hc69
            exact ⟨g1, by omega, by omega, by omega⟩
          refine AW.skip ?_
          refine hK11 _ _ ?_; try clear hK11 K11
          refine AW.seq_k fun K14 hK14 => ?_
          refine AW.regl false [8] (by rfl) fun K15 hK15 => ?_ -- region 9
          simp only [go_sem, Nat.reduceAdd, Nat.reduceEqDiff, Nat.reduceLeDiff, true_and, List.length_map, rdgm_get, dgm_all, file_all, blk_all, rfile_get, rsrc_get, rblk_get, rport_get, rout_get]
          refine hK15 _ _ ?_; try clear hK15 K15
          conv => enter [4]; simp only [setL_cons, setL_nil, List.set_cons_zero, List.set_cons_succ]
          refine AW.block ?_
          -- LIVE but not told: [44, 45, 46, 47, 48, 49, 50, 53, 54, 55, 56, 57, 58, 59, 62, 63, 64, 65, 66, 67, 68, 129, 130, 131, 132, 133, 136, 137, 138, 139, 140, 143, 144, 145, 146, 147, 150, 151, 152, 153, 154, 157, 158, 159, 160, 161, 164, 165, 166, 167, 168, 169, 170]
          refine AW.loop_wk (α := Nat) (fun j => [.any, .any, (.ref σ.length 0), (.ref (σ.length + 1) 0), .any, (.val (.int .i64 (i : Nat))), (.ref (σ.length + 2) 0), (.ref (σ.length + 3) 0), (.val (.int .i64 (j : Nat))), .any, .any, .any, .any, .any, .any, .any, .any, .any, .any, .any, .any, .any, .any, .any, .any, .any, .any, .any, .any, .any, .any, .any, .any, .any, .any, .any, .any, .any, .any, .any, .any, .any, .any, .any, .any, .any, .any, .any, .any, .any, .any, .any, .any, .any, .any, .any, .any, .any, .any, .any, .any, .any, .any, .any, .any, .any, .any, .any, .any, .any, .any, .any, .any, .any, .any, .any, .any, .any, .any, .any, .any, .any, .any, .any, .any, .any, .any, .any, .any, .any, .any, .any, .any, .any, .any, .any, .any, .any, .any, .any, .any, .any, .any, .any, .any, .any, .any, .any, .any, .any, .any, .any, .any, .any, .any, .any, .any, .any, .any, .any, .any, .any, .any, .any, .any, .any, .any, .any, .any, .any, .any, .any, .any, .any, .any, .any, .any, .any, .any, .any, .any, .any, .any, .any, .any, .any, .any, .any, .any, .any, .any, .any, .any, .any, .any, .any, .any, .any, .any, .any, .any, .any, .any, .any, .any, .any, .any, .any, .any, .any, .any, .any, .any, .any, .any, .any, .any, .any, .any, .any, .any, .any, .any, .any, .any, .any, .any, .any, .any, .any]) (fun j => σ ++ [.cells a.enc.cells, .cells b.enc.cells, .cells x.enc.cells, .cells y.enc.cells]) (fun j => x.ins.length - j) (fun j => j ≤ x.ins.length ∧ (x.ins.take j).map PortM.key = (y.ins.take j).map PortM.key) 0 ?_ ?_
          · exact ⟨⟨Nat.zero_le _, rfl⟩, by simp [Wk], rfl⟩
          · rintro j ⟨hj, hjt⟩
            refine AW.seq_k fun K16 hK16 => ?_
            refine AW.regl false [74] (by rfl) fun K17 hK17 => ?_ -- region 10
            simp only [go_sem, Nat.reduceAdd, Nat.reduceEqDiff, Nat.reduceLeDiff, true_and, List.length_map, rdgm_get, dgm_all, file_all, blk_all, rfile_get, rsrc_get, rblk_get, rport_get, rout_get, Dgm.enc]
            refine hK17 _ _ ?_; try clear hK17 K17
            conv => enter [4]; simp only [setL_cons, setL_nil, List.set_cons_zero, List.set_cons_succ]
            refine AW.cond rfl (fun hc74 => ?_) (fun hc74 => ?_)
            · skip
              have hj1 : j < x.ins.length := by simpa using hc74
              have hj2 : j < y.ins.length := by rw [← hN.2.1]; exact hj1
              obtain ⟨u, hxj⟩ : ∃ z, z = x.ins[j] := ⟨_, rfl⟩
              obtain ⟨v, hyj⟩ : ∃ z, z = y.ins[j] := ⟨_, rfl⟩
              have gxj : (x.ins.map PortM.enc)[j]? = some u.enc := by rw [hxj]; simp [hj1]
              have gyj : (y.ins.map PortM.enc)[j]? = some v.enc := by rw [hyj]; simp [hj2]
              refine AW.skip ?_
              refine hK16 _ _ ?_; try clear hK16 K16
              refine AW.seq_k fun K18 hK18 => ?_
              refine AW.block ?_
              refine AW.regdl mixed false [87] (by kernel_rfl) (by rfl) fun K19 hK19 => ?_ -- region 12
              simp only [go_sem, Nat.reduceAdd, Nat.reduceEqDiff, Nat.reduceLeDiff, true_and, List.length_map, rdgm_get, dgm_all, file_all, blk_all, rfile_get, rsrc_get, rblk_get, rport_get, rout_get, Dgm.enc, at_row gxj, at_row gyj, neq_port (T := 118) (.inr rfl)]
              refine hK19 _ ?_; try clear hK19 K19
              conv => enter [4]; simp only [setL_cons, setL_nil, List.set_cons_zero, List.set_cons_succ]
              refine AW.cond rfl (fun hc87 => ?_) (fun hc87 => ?_)
              · skip
                refine AW.regl false [4] (by rfl) fun K20 hK20 => ?_ -- region 13
                simp only [go_sem, Nat.reduceAdd, Nat.reduceEqDiff, Nat.reduceLeDiff, true_and, List.length_map, rdgm_get, dgm_all, file_all, blk_all, rfile_get, rsrc_get, rblk_get, rport_get, rout_get]
                refine hK20 _ _ ?_; try clear hK20 K20
                conv => enter [4]; simp only [setL_cons, setL_nil, List.set_cons_zero, List.set_cons_succ]
                refine AW.ret ⟨.inr rfl, _, rfl, by simp, ?_⟩ -- return 3
                refine frzB ?_
                refine (file_ne hi1 hi2 ?_).symm
                rw [← hxi, ← hyi]
                intro e
                obtain ⟨e1, e2, e3, e4⟩ := dgm_key.1 e
                exact eq_at hj1 hj2 (by rw [← hxj, ← hyj]; exact not_dec hc87) e2
              · skip
                refine AW.skip ?_
                refine hK18 _ _ ?_; try clear hK18 K18
                refine AW.lastl false [8] (by rfl) fun K hK => ?_ -- region 11
                simp only [go_sem, Nat.reduceAdd, Nat.reduceEqDiff, Nat.reduceLeDiff, true_and, List.length_map, rdgm_get, dgm_all, file_all, blk_all, rfile_get, rsrc_get, rblk_get, rport_get, rout_get]
                refine hK _ _ fun env' hw => ?_
                simp only [setL_cons, setL_nil, List.set_cons_zero, List.set_cons_succ] at hw
                refine ⟨j + 1, by omega, ⟨by omega, eq_step hj1 hj2 hjt (by rw [← hxj, ← hyj]; exact dec_of hc87)⟩, ?_, rfl⟩
                refine hw.trans ?_
                simp [Wk, wrap_succ (show j < 1000 by omega) (by decide)]
            · skip
              have hj1 : ¬ j < x.ins.length := by simpa using hc74
              have hA := eq_end hj1 hN.2.1 hjt
              refine AW.exit ?_
              refine hK14 _ _ ?_; try clear hK14 K14
              refine AW.seq_k fun K21 hK21 => ?_
              refine AW.regl false [9] (by rfl) fun K22 hK22 => ?_ -- region 14
              simp only [go_sem, Nat.reduceAdd, Nat.reduceEqDiff, Nat.reduceLeDiff, true_and, List.length_map, rdgm_get, dgm_all, file_all, blk_all, rfile_get, rsrc_get, rblk_get, rport_get, rout_get]
              refine hK22 _ _ ?_; try clear hK22 K22
              conv => enter [4]; simp only [setL_cons, setL_nil, List.set_cons_zero, List.set_cons_succ]
              refine AW.block ?_
              -- LIVE but not told: [44, 45, 46, 47, 48, 49, 50, 53, 54, 55, 56, 57, 58, 59, 62, 63, 64, 65, 66, 67, 68, 129, 130, 131, 132, 133, 136, 137, 138, 139, 140, 143, 144, 145, 146, 147, 150, 151, 152, 153, 154, 157, 158, 159, 160, 161, 164, 165, 166, 167, 168, 169, 170]
              refine AW.loop_wk (α := Nat) (fun j => [.any, .any, (.ref σ.length 0), (.ref (σ.length + 1) 0), .any, (.val (.int .i64 (i : Nat))), (.ref (σ.length + 2) 0), (.ref (σ.length + 3) 0), .any, (.val (.int .i64 (j : Nat))), .any, .any, .any, .any, .any, .any, .any, .any, .any, .any, .any, .any, .any, .any, .any, .any, .any, .any, .any, .any, .any, .any, .any, .any, .any, .any, .any, .any, .any, .any, .any, .any, .any, .any, .any, .any, .any, .any, .any, .any, .any, .any, .any, .any, .any, .any, .any, .any, .any, .any, .any, .any, .any, .any, .any, .any, .any, .any, .any, .any, .any, .any, .any, .any, .any, .any, .any, .any, .any, .any, .any, .any, .any, .any, .any, .any, .any, .any, .any, .any, .any, .any, .any, .any, .any, .any, .any, .any, .any, .any, .any, .any, .any, .any, .any, .any, .any, .any, .any, .any, .any, .any, .any, .any, .any, .any, .any, .any, .any, .any, .any, .any, .any, .any, .any, .any, .any, .any, .any, .any, .any, .any, .any, .any, .any, .any, .any, .any, .any, .any, .any, .any, .any, .any, .any, .any, .any, .any, .any, .any, .any, .any, .any, .any, .any, .any, .any, .any, .any, .any, .any, .any, .any, .any, .any, .any, .any, .any, .any, .any, .any, .any, .any, .any, .any, .any, .any, .any, .any, .any, .any, .any, .any, .any, .any, .any, .any, .any, .any, .any]) (fun j => σ ++ [.cells a.enc.cells, .cells b.enc.cells, .cells x.enc.cells, .cells y.enc.cells]) (fun j => x.outs.length - j) (fun j => j ≤ x.outs.length ∧ (x.outs.take j).map OutM.key = (y.outs.take j).map OutM.key) 0 ?_ ?_
              · exact ⟨⟨Nat.zero_le _, rfl⟩, by simp [Wk], rfl⟩
              · rintro j ⟨hj, hjt⟩
                refine AW.seq_k fun K23 hK23 => ?_
                refine AW.regl false [92] (by rfl) fun K24 hK24 => ?_ -- region 15
                simp only [go_sem, Nat.reduceAdd, Nat.reduceEqDiff, Nat.reduceLeDiff, true_and, List.length_map, rdgm_get, dgm_all, file_all, blk_all, rfile_get, rsrc_get, rblk_get, rport_get, rout_get, Dgm.enc]
                refine hK24 _ _ ?_; try clear hK24 K24
                conv => enter [4]; simp only [setL_cons, setL_nil, List.set_cons_zero, List.set_cons_succ]
                refine AW.cond rfl (fun hc92 => ?_) (fun hc92 => ?_)
                · skip
                  have hj1 : j < x.outs.length := by simpa using hc92
                  have hj2 : j < y.outs.length := by rw [← hN.2.2.1]; exact hj1
                  obtain ⟨u, hxj⟩ : ∃ z, z = x.outs[j] := ⟨_, rfl⟩
                  obtain ⟨v, hyj⟩ : ∃ z, z = y.outs[j] := ⟨_, rfl⟩
                  have gxj : (x.outs.map OutM.enc)[j]? = some u.enc := by rw [hxj]; simp [hj1]
                  have gyj : (y.outs.map OutM.enc)[j]? = some v.enc := by rw [hyj]; simp [hj2]
                  refine AW.skip ?_
                  refine hK23 _ _ ?_; try clear hK23 K23
                  refine AW.seq_k fun K25 hK25 => ?_
                  refine AW.block ?_
                  refine AW.regdl mixed false [105] (by kernel_rfl) (by rfl) fun K26 hK26 => ?_ -- region 17
                  simp only [go_sem, Nat.reduceAdd, Nat.reduceEqDiff, Nat.reduceLeDiff, true_and, List.length_map, rdgm_get, dgm_all, file_all, blk_all, rfile_get, rsrc_get, rblk_get, rport_get, rout_get, Dgm.enc, at_row gxj, at_row gyj, neq_out (T := 120) (.inr rfl)]
                  refine hK26 _ ?_; try clear hK26 K26
                  conv => enter [4]; simp only [setL_cons, setL_nil, List.set_cons_zero, List.set_cons_succ]
                  refine AW.cond rfl (fun hc105 => ?_) (fun hc105 => ?_)
                  · skip
                    refine AW.regl false [4] (by rfl) fun K27 hK27 => ?_ -- region 18
                    simp only [go_sem, Nat.reduceAdd, Nat.reduceEqDiff, Nat.reduceLeDiff, true_and, List.length_map, rdgm_get, dgm_all, file_all, blk_all, rfile_get, rsrc_get, rblk_get, rport_get, rout_get]
                    refine hK27 _ _ ?_; try clear hK27 K27
                    conv => enter [4]; simp only [setL_cons, setL_nil, List.set_cons_zero, List.set_cons_succ]
                    refine AW.ret ⟨.inr rfl, _, rfl, by simp, ?_⟩ -- return 4
                    refine frzB ?_
                    refine (file_ne hi1 hi2 ?_).symm
                    rw [← hxi, ← hyi]
                    intro e
                    obtain ⟨e1, e2, e3, e4⟩ := dgm_key.1 e
                    exact eq_at hj1 hj2 (by rw [← hxj, ← hyj]; exact not_dec hc105) e3
                  · skip
                    refine AW.skip ?_
                    refine hK25 _ _ ?_; try clear hK25 K25
                    refine AW.lastl false [9] (by rfl) fun K hK => ?_ -- region 16
                    simp only [go_sem, Nat.reduceAdd, Nat.reduceEqDiff, Nat.reduceLeDiff, true_and, List.length_map, rdgm_get, dgm_all, file_all, blk_all, rfile_get, rsrc_get, rblk_get, rport_get, rout_get]
                    refine hK _ _ fun env' hw => ?_
                    simp only [setL_cons, setL_nil, List.set_cons_zero, List.set_cons_succ] at hw
                    refine ⟨j + 1, by omega, ⟨by omega, eq_step hj1 hj2 hjt (by rw [← hxj, ← hyj]; exact dec_of hc105)⟩, ?_, rfl⟩
                    refine hw.trans ?_
                    simp [Wk, wrap_succ (show j < 1000 by omega) (by decide)]
                · skip
                  have hj1 : ¬ j < x.outs.length := by simpa using hc92
                  have hB := eq_end hj1 hN.2.2.1 hjt
                  refine AW.exit ?_
                  refine hK21 _ _ ?_; try clear hK21 K21
                  refine AW.regl false [10] (by rfl) fun K28 hK28 => ?_ -- region 19
                  simp only [go_sem, Nat.reduceAdd, Nat.reduceEqDiff, Nat.reduceLeDiff, true_and, List.length_map, rdgm_get, dgm_all, file_all, blk_all, rfile_get, rsrc_get, rblk_get, rport_get, rout_get]
                  refine hK28 _ _ ?_; try clear hK28 K28
                  conv => enter [4]; simp only [setL_cons, setL_nil, List.set_cons_zero, List.set_cons_succ]
                  refine AW.block ?_
                  -- LIVE but not told: [44, 45, 46, 47, 48, 49, 50, 53, 54, 55, 56, 57, 58, 59, 62, 63, 64, 65, 66, 67, 68, 129, 130, 131, 132, 133, 136, 137, 138, 139, 140, 143, 144, 145, 146, 147, 150, 151, 152, 153, 154, 157, 158, 159, 160, 161, 164, 165, 166, 167, 168, 169, 170]
                  refine AW.loop_dr (α := Nat) (fun j => [.any, .any, (.ref σ.length 0), (.ref (σ.length + 1) 0), .any, (.val (.int .i64 (i : Nat))), (.ref (σ.length + 2) 0), (.ref (σ.length + 3) 0), .any, .any, (.val (.int .i64 (j : Nat))), .any, .any, .any, .any, .any, .any, .any, .any, .any, .any, .any, .any, .any, .any, .any, .any, .any, .any, .any, .any, .any, .any, .any, .any, .any, .any, .any, .any, .any, .any, .any, .any, .any, .any, .any, .any, .any, .any, .any, .any, .any, .any, .any, .any, .any, .any, .any, .any, .any, .any, .any, .any, .any, .any, .any, .any, .any, .any, .any, .any, .any, .any, .any, .any, .any, .any, .any, .any, .any, .any, .any, .any, .any, .any, .any, .any, .any, .any, .any, .any, .any, .any, .any, .any, .any, .any, .any, .any, .any, .any, .any, .any, .any, .any, .any, .any, .any, .any, .any, .any, .any, .any, .any, .any, .any, .any, .any, .any, .any, .any, .any, .any, .any, .any, .any, .any, .any, .any, .any, .any, .any, .any, .any, .any, .any, .any, .any, .any, .any, .any, .any, .any, .any, .any, .any, .any, .any, .any, .any, .any, .any, .any, .any, .any, .any, .any, .any, .any, .any, .any, .any, .any, .any, .any, .any, .any, .any, .any, .any, .any, .any, .any, .any, .any, .any, .any, .any, .any, .any, .any, .any, .any, .any, .any, .any, .any, .any, .any, .any]) (fun j => σ ++ [.cells a.enc.cells, .cells b.enc.cells, .cells x.enc.cells, .cells y.enc.cells]) (fun j => x.blocks.length - j) (fun j => j ≤ x.blocks.length ∧ (x.blocks.take j).map Blk.key = (y.blocks.take j).map Blk.key) 0 ?_ ?_ ?_
                  · exact ⟨⟨Nat.zero_le _, rfl⟩, by simp [Wk], rfl⟩
                  · exact fun y _ => ⟨by simp [belL, AV.bel], bel_one⟩
                  · rintro j ⟨hj, hjt⟩
                    refine AW.seq_k fun K29 hK29 => ?_
                    refine AW.regl false [110] (by rfl) fun K30 hK30 => ?_ -- region 20
                    simp only [go_sem, Nat.reduceAdd, Nat.reduceEqDiff, Nat.reduceLeDiff, true_and, List.length_map, rdgm_get, dgm_all, file_all, blk_all, rfile_get, rsrc_get, rblk_get, rport_get, rout_get, Dgm.enc]
                    refine hK30 _ _ ?_; try clear hK30 K30
                    conv => enter [4]; simp only [setL_cons, setL_nil, List.set_cons_zero, List.set_cons_succ]
                    refine AW.cond rfl (fun hc110 => ?_) (fun hc110 => ?_)
                    · skip
                      have hj1 : j < x.blocks.length := by simpa using hc110
                      have hj2 : j < y.blocks.length := by rw [← hN.2.2.2]; exact hj1
                      obtain ⟨p, hxj⟩ : ∃ z, z = x.blocks[j] := ⟨_, rfl⟩
                      obtain ⟨q, hyj⟩ : ∃ z, z = y.blocks[j] := ⟨_, rfl⟩
                      have gxj : (x.blocks.map Blk.enc)[j]? = some p.enc := by rw [hxj]; simp [hj1]
                      have gyj : (y.blocks.map Blk.enc)[j]? = some q.enc := by rw [hyj]; simp [hj2]
                      have hps := k5 p (by rw [hxj]; exact List.getElem_mem hj1)
                      refine AW.skip ?_
                      refine hK29 _ _ ?_; try clear hK29 K29
                      refine AW.seq_k fun K31 hK31 => ?_
                      refine AW.block ?_
                      refine AW.regal mixed false [11, 12] 12 10 11 11 12 (by kernel_rfl) (by kernel_rfl) (by rfl) (by kernel_rfl) (by kernel_rfl) (by rfl) (by rfl) (by rfl) (hz_of zero64 rfl) (fun _ => rfl) fun K32 hK32 => ?_ -- region 22
                      simp only [go_sem, Nat.reduceAdd, Nat.reduceEqDiff, Nat.reduceLeDiff, true_and, List.length_map, rdgm_get, dgm_all, file_all, blk_all, rfile_get, rsrc_get, rblk_get, rport_get, rout_get, Dgm.enc, at_row gxj, at_row gyj, blk_len, List.append_assoc, List.cons_append, List.nil_append, Nat.add_assoc, upd_none]
                      refine hK32 _ _ ?_; try clear hK32 K32
                      conv => enter [4]; simp only [setL_cons, setL_nil, List.set_cons_zero, List.set_cons_succ, upd_none, upd_at]
                      refine AW.seq_k fun K33 hK33 => ?_
                      -- LIVE [129, 130, 131, 132, 133, 136, 137, 138, 139, 140, 143, 144, 145, 146, 147, 150, 151, 152, 153, 154, 157, 158, 159, 160, 161, 164, 165, 166, 167, 168, 169, 170, 171]
                      refine AW.regtf false 171 (.val (.bool ((((((p.kind != q.kind || p.op != q.op) || p.sub != q.sub) || p.n != q.n) || p.x != q.x) || p.y != q.y) || (p.src.length : Int) != (q.src.length : Int)))) (by rfl) ?_ ?_ -- region 23
                      · skip
                        cases h127 : (p.kind != q.kind)
                        · skip
                          cases h133 : (p.op != q.op)
                          · skip
                            cases h140 : (p.sub != q.sub)
                            · skip
                              cases h147 : (p.n != q.n)
                              · skip
                                cases h154 : (p.x != q.x)
                                · skip
                                  cases h161 : (p.y != q.y)
                                  · skip
                                    simp only [go_sem, Nat.reduceAdd, Nat.reduceEqDiff, Nat.reduceLeDiff, true_and, List.length_map, rdgm_get, dgm_all, file_all, blk_all, rfile_get, rsrc_get, rblk_get, rport_get, rout_get, Blk.enc, h127, h133, h140, h147, h154, h161]
                                    try simp [upd_at, h127, h133, h140, h147, h154, h161, List.length_map, rdgm_get, dgm_all, file_all, blk_all, rfile_get, rsrc_get, rblk_get, rport_get, rout_get, Blk.enc]
                                  · skip
                                    simp only [go_sem, Nat.reduceAdd, Nat.reduceEqDiff, Nat.reduceLeDiff, true_and, List.length_map, rdgm_get, dgm_all, file_all, blk_all, rfile_get, rsrc_get, rblk_get, rport_get, rout_get, Blk.enc, h127, h133, h140, h147, h154, h161]
                                    try simp [upd_at, h127, h133, h140, h147, h154, h161, List.length_map, rdgm_get, dgm_all, file_all, blk_all, rfile_get, rsrc_get, rblk_get, rport_get, rout_get, Blk.enc]
                                · skip
                                  simp only [go_sem, Nat.reduceAdd, Nat.reduceEqDiff, Nat.reduceLeDiff, true_and, List.length_map, rdgm_get, dgm_all, file_all, blk_all, rfile_get, rsrc_get, rblk_get, rport_get, rout_get, Blk.enc, h127, h133, h140, h147, h154]
                                  try simp [upd_at, h127, h133, h140, h147, h154, List.length_map, rdgm_get, dgm_all, file_all, blk_all, rfile_get, rsrc_get, rblk_get, rport_get, rout_get, Blk.enc]
                              · skip
                                simp only [go_sem, Nat.reduceAdd, Nat.reduceEqDiff, Nat.reduceLeDiff, true_and, List.length_map, rdgm_get, dgm_all, file_all, blk_all, rfile_get, rsrc_get, rblk_get, rport_get, rout_get, Blk.enc, h127, h133, h140, h147]
                                try simp [upd_at, h127, h133, h140, h147, List.length_map, rdgm_get, dgm_all, file_all, blk_all, rfile_get, rsrc_get, rblk_get, rport_get, rout_get, Blk.enc]
                            · skip
                              simp only [go_sem, Nat.reduceAdd, Nat.reduceEqDiff, Nat.reduceLeDiff, true_and, List.length_map, rdgm_get, dgm_all, file_all, blk_all, rfile_get, rsrc_get, rblk_get, rport_get, rout_get, Blk.enc, h127, h133, h140]
                              try simp [upd_at, h127, h133, h140, List.length_map, rdgm_get, dgm_all, file_all, blk_all, rfile_get, rsrc_get, rblk_get, rport_get, rout_get, Blk.enc]
                          · skip
                            simp only [go_sem, Nat.reduceAdd, Nat.reduceEqDiff, Nat.reduceLeDiff, true_and, List.length_map, rdgm_get, dgm_all, file_all, blk_all, rfile_get, rsrc_get, rblk_get, rport_get, rout_get, Blk.enc, h127, h133]
                            try simp [upd_at, h127, h133, List.length_map, rdgm_get, dgm_all, file_all, blk_all, rfile_get, rsrc_get, rblk_get, rport_get, rout_get, Blk.enc]
                        · skip
                          simp only [go_sem, Nat.reduceAdd, Nat.reduceEqDiff, Nat.reduceLeDiff, true_and, List.length_map, rdgm_get, dgm_all, file_all, blk_all, rfile_get, rsrc_get, rblk_get, rport_get, rout_get, Blk.enc, h127]
                          try simp [upd_at, h127, List.length_map, rdgm_get, dgm_all, file_all, blk_all, rfile_get, rsrc_get, rblk_get, rport_get, rout_get, Blk.enc]
                      conv => enter [4]; simp only [List.set_cons_zero, List.set_cons_succ]
                      refine AW.cond rfl (fun hc171 => ?_) (fun hc171 => ?_)
                      · skip
                        refine AW.regl false [4] (by rfl) fun K35 hK35 => ?_ -- region 24
                        simp only [go_sem, Nat.reduceAdd, Nat.reduceEqDiff, Nat.reduceLeDiff, true_and, List.length_map, rdgm_get, dgm_all, file_all, blk_all, rfile_get, rsrc_get, rblk_get, rport_get, rout_get]
                        refine hK35 _ _ ?_; try clear hK35 K35
                        conv => enter [4]; simp only [setL_cons, setL_nil, List.set_cons_zero, List.set_cons_succ]
                        refine AW.ret ⟨.inr rfl, _, rfl, by simp, ?_⟩ -- return 5
                        refine frzB ?_
                        refine (file_ne hi1 hi2 ?_).symm
                        rw [← hxi, ← hyi]
                        intro e
                        obtain ⟨e1, e2, e3, e4⟩ := dgm_key.1 e
                        refine eq_at hj1 hj2 ?_ e4
                        rw [← hxj, ← hyj]
                        intro e5
                        obtain ⟨f1, f2, f3, f4, f5, f6, f7⟩ := blk_key.1 e5
                        simp [f1, f2, f3, f4, f5, f6, map_len f7] at hc171
                      · skip
                        have hM : p.kind = q.kind ∧ p.op = q.op ∧ p.sub = q.sub ∧ p.n = q.n ∧ p.x = q.x ∧ p.y = q.y ∧ p.src.length = q.src.length := by
                          simp only [Bool.or_eq_false_iff, bne_eq_false_iff_eq] at hc171
                          obtain ⟨⟨⟨⟨⟨⟨g1, g2⟩, g3⟩, g4⟩, g5⟩, g6⟩, g7⟩ := hc171
                          exact ⟨g1, g2, g3, g4, g5, g6, by omega⟩
                        refine AW.skip ?_
                        refine hK33 _ _ ?_; try clear hK33 K33
                        refine AW.regl false [13] (by rfl) fun K36 hK36 => ?_ -- region 25
                        simp only [go_sem, Nat.reduceAdd, Nat.reduceEqDiff, Nat.reduceLeDiff, true_and, List.length_map, rdgm_get, dgm_all, file_all, blk_all, rfile_get, rsrc_get, rblk_get, rport_get, rout_get]
                        refine hK36 _ _ ?_; try clear hK36 K36
                        conv => enter [4]; simp only [setL_cons, setL_nil, List.set_cons_zero, List.set_cons_succ]
                        refine AW.block ?_
                        -- LIVE but not told: [44, 45, 46, 47, 48, 49, 50, 53, 54, 55, 56, 57, 58, 59, 62, 63, 64, 65, 66, 67, 68, 129, 130, 131, 132, 133, 136, 137, 138, 139, 140, 143, 144, 145, 146, 147, 150, 151, 152, 153, 154, 157, 158, 159, 160, 161, 164, 165, 166, 167, 168, 169, 170]
                        refine AW.loop_wk (α := Nat) (fun k => [.any, .any, (.ref σ.length 0), (.ref (σ.length + 1) 0), .any, (.val (.int .i64 (i : Nat))), (.ref (σ.length + 2) 0), (.ref (σ.length + 3) 0), .any, .any, (.val (.int .i64 (j : Nat))), (.ref (σ.length + 4) 0), (.ref (σ.length + 5) 0), (.val (.int .i64 (k : Nat))), .any, .any, .any, .any, .any, .any, .any, .any, .any, .any, .any, .any, .any, .any, .any, .any, .any, .any, .any, .any, .any, .any, .any, .any, .any, .any, .any, .any, .any, .any, .any, .any, .any, .any, .any, .any, .any, .any, .any, .any, .any, .any, .any, .any, .any, .any, .any, .any, .any, .any, .any, .any, .any, .any, .any, .any, .any, .any, .any, .any, .any, .any, .any, .any, .any, .any, .any, .any, .any, .any, .any, .any, .any, .any, .any, .any, .any, .any, .any, .any, .any, .any, .any, .any, .any, .any, .any, .any, .any, .any, .any, .any, .any, .any, .any, .any, .any, .any, .any, .any, .any, .any, .any, .any, .any, .any, .any, .any, .any, .any, .any, .any, .any, .any, .any, .any, .any, .any, .any, .any, .any, .any, .any, .any, .any, .any, .any, .any, .any, .any, .any, .any, .any, .any, .any, .any, .any, .any, .any, .any, .any, .any, .any, .any, .any, .any, .any, .any, .any, .any, .any, .any, .any, .any, .any, .any, .any, .any, .any, .any, .any, .any, .any, .any, .any, .any, .any, .any, .any, .any, .any, .any, .any, .any, .any, .any]) (fun k => σ ++ [.cells a.enc.cells, .cells b.enc.cells, .cells x.enc.cells, .cells y.enc.cells, .cells p.enc.cells, .cells q.enc.cells]) (fun k => p.src.length - k) (fun k => k ≤ p.src.length ∧ (p.src.take k).map Src.key = (q.src.take k).map Src.key) 0 ?_ ?_
                        · exact ⟨⟨Nat.zero_le _, rfl⟩, by simp [Wk], rfl⟩
                        · rintro k ⟨hk, hkt⟩
                          refine AW.seq_k fun K37 hK37 => ?_
                          refine AW.regl false [176] (by rfl) fun K38 hK38 => ?_ -- region 26
                          simp only [go_sem, Nat.reduceAdd, Nat.reduceEqDiff, Nat.reduceLeDiff, true_and, List.length_map, rdgm_get, dgm_all, file_all, blk_all, rfile_get, rsrc_get, rblk_get, rport_get, rout_get, Blk.enc]
                          refine hK38 _ _ ?_; try clear hK38 K38
                          conv => enter [4]; simp only [setL_cons, setL_nil, List.set_cons_zero, List.set_cons_succ]
                          refine AW.cond rfl (fun hc176 => ?_) (fun hc176 => ?_)
                          · skip
                            have hk1 : k < p.src.length := by simpa using hc176
                            have hk2 : k < q.src.length := by rw [← hM.2.2.2.2.2.2]; exact hk1
                            obtain ⟨u, hxk⟩ : ∃ z, z = p.src[k] := ⟨_, rfl⟩
                            obtain ⟨v, hyk⟩ : ∃ z, z = q.src[k] := ⟨_, rfl⟩
                            have gxk : (p.src.map Src.enc)[k]? = some u.enc := by rw [hxk]; simp [hk1]
                            have gyk : (q.src.map Src.enc)[k]? = some v.enc := by rw [hyk]; simp [hk2]
                            refine AW.skip ?_
                            refine hK37 _ _ ?_; try clear hK37 K37
                            refine AW.seq_k fun K39 hK39 => ?_
                            refine AW.block ?_
                            refine AW.regdl mixed false [189] (by kernel_rfl) (by rfl) fun K40 hK40 => ?_ -- region 28
                            simp only [go_sem, Nat.reduceAdd, Nat.reduceEqDiff, Nat.reduceLeDiff, true_and, List.length_map, rdgm_get, dgm_all, file_all, blk_all, rfile_get, rsrc_get, rblk_get, rport_get, rout_get, Blk.enc, at_row gxk, at_row gyk, neq_src (T := 108) (.inr rfl)]
                            refine hK40 _ ?_; try clear hK40 K40
                            conv => enter [4]; simp only [setL_cons, setL_nil, List.set_cons_zero, List.set_cons_succ]
                            refine AW.cond rfl (fun hc189 => ?_) (fun hc189 => ?_)
                            · skip
                              refine AW.regl false [4] (by rfl) fun K41 hK41 => ?_ -- region 29
                              simp only [go_sem, Nat.reduceAdd, Nat.reduceEqDiff, Nat.reduceLeDiff, true_and, List.length_map, rdgm_get, dgm_all, file_all, blk_all, rfile_get, rsrc_get, rblk_get, rport_get, rout_get]
                              refine hK41 _ _ ?_; try clear hK41 K41
                              conv => enter [4]; simp only [setL_cons, setL_nil, List.set_cons_zero, List.set_cons_succ]
                              refine AW.ret ⟨.inr rfl, _, rfl, by simp, ?_⟩ -- return 6
                              refine frzB ?_
                              refine (file_ne hi1 hi2 ?_).symm
                              rw [← hxi, ← hyi]
                              intro e
                              obtain ⟨e1, e2, e3, e4⟩ := dgm_key.1 e
                              refine eq_at hj1 hj2 ?_ e4
                              rw [← hxj, ← hyj]
                              intro e5
                              obtain ⟨f1, f2, f3, f4, f5, f6, f7⟩ := blk_key.1 e5
                              exact eq_at hk1 hk2 (by rw [← hxk, ← hyk]; exact not_dec hc189) f7
                            · skip
                              refine AW.skip ?_
                              refine hK39 _ _ ?_; try clear hK39 K39
                              refine AW.lastl false [13] (by rfl) fun K hK => ?_ -- region 27
                              simp only [go_sem, Nat.reduceAdd, Nat.reduceEqDiff, Nat.reduceLeDiff, true_and, List.length_map, rdgm_get, dgm_all, file_all, blk_all, rfile_get, rsrc_get, rblk_get, rport_get, rout_get]
                              refine hK _ _ fun env' hw => ?_
                              simp only [setL_cons, setL_nil, List.set_cons_zero, List.set_cons_succ] at hw
                              refine ⟨k + 1, by omega, ⟨by omega, eq_step hk1 hk2 hkt (by rw [← hxk, ← hyk]; exact dec_of hc189)⟩, ?_, rfl⟩
                              refine hw.trans ?_
                              simp [Wk, wrap_succ (show k < 1000 by omega) (by decide)]
                          · skip
                            have hk1 : ¬ k < p.src.length := by simpa using hc176
                            have hD := eq_end hk1 hM.2.2.2.2.2.2 hkt
                            refine AW.exit ?_
                            refine hK31 _ _ ?_; try clear hK31 K31
                            refine AW.lastl false [10] (by rfl) fun K hK => ?_ -- region 21
                            simp only [go_sem, Nat.reduceAdd, Nat.reduceEqDiff, Nat.reduceLeDiff, true_and, List.length_map, rdgm_get, dgm_all, file_all, blk_all, rfile_get, rsrc_get, rblk_get, rport_get, rout_get]
                            refine hK _ _ fun env' hw => ?_
                            simp only [setL_cons, setL_nil, List.set_cons_zero, List.set_cons_succ] at hw
                            refine ⟨j + 1, by omega, ⟨by omega, eq_step hj1 hj2 hjt (by rw [← hxj, ← hyj]; exact blk_key.2 ⟨hM.1, hM.2.1, hM.2.2.1, hM.2.2.2.1, hM.2.2.2.2.1, hM.2.2.2.2.2.1, hD⟩)⟩, ?_, by simp [List.take_append, List.take_of_length_le, Dgm.enc, AV.cells, Blk.enc, AV.cells]⟩
                            refine hw.trans ?_
                            simp [Wk, wrap_succ (show j < 1000 by omega) (by decide)]
                    · skip
                      have hj1 : ¬ j < x.blocks.length := by simpa using hc110
                      have hC := eq_end hj1 hN.2.2.2 hjt
                      refine AW.exit ?_
                      refine hK9 _ _ ?_; try clear hK9 K9
                      refine AW.lastl false [5] (by rfl) fun K hK => ?_ -- region 5
                      simp only [go_sem, Nat.reduceAdd, Nat.reduceEqDiff, Nat.reduceLeDiff, true_and, List.length_map, rdgm_get, dgm_all, file_all, blk_all, rfile_get, rsrc_get, rblk_get, rport_get, rout_get]
                      refine hK _ _ fun env' hw => ?_
                      simp only [setL_cons, setL_nil, List.set_cons_zero, List.set_cons_succ] at hw
                      refine ⟨i + 1, by omega, ⟨by omega, eq_step hi1 hi2 hit (by rw [← hxi, ← hyi]; exact dgm_key.2 ⟨hN.1, hA, hB, hC⟩)⟩, ?_, by simp [List.take_append, List.take_of_length_le, Dgm.enc, AV.cells]⟩
                      refine hw.trans ?_
                      simp [Wk, wrap_succ (show i < 1000 by omega) (by decide)]
      · skip
        have hi1 : ¬ i < a.ds.length := by simpa using hc25
        have hZ := eq_end hi1 hl0 hit
        refine AW.exit ?_
        refine hK5 _ _ ?_; try clear hK5 K5
        refine AW.regl false [4] (by rfl) fun K42 hK42 => ?_ -- region 30
        simp only [go_sem, Nat.reduceAdd, Nat.reduceEqDiff, Nat.reduceLeDiff, true_and, List.length_map, rdgm_get, dgm_all, file_all, blk_all, rfile_get, rsrc_get, rblk_get, rport_get, rout_get]
        refine hK42 _ _ ?_; try clear hK42 K42
        conv => enter [4]; simp only [setL_cons, setL_nil, List.set_cons_zero, List.set_cons_succ]
        refine AW.ret ⟨.inr rfl, _, rfl, by simp, ?_⟩ -- return 7
        refine frzB ?_
        exact (decide_eq_true (show a.key = b.key from hZ)).symm
end Go.Proofs.Tryd
