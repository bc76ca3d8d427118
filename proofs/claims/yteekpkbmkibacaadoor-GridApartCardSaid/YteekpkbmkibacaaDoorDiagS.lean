import Derived.Test.YteekpkbmkibacaaDoorDiagR
import Derived.Test.YteekpkbmkibacaaDoorDiagK
/-! What the document says of files. -/
namespace Go.Proofs.Tryd
set_option linter.unusedSimpArgs false
set_option linter.unusedVariables false
open Go Go.Proofs.Ev
variable {Γ : List (Nat × List AV)}
set_option maxRecDepth 100000 in
theorem great_calls (f : FileM) (hf : f.ok) : APure prog Γ 24 [f.enc] (.val (.bool f.great)) := by
  refine APure.of func24 rfl fun σ => ?_
  simp only [ntmps24, List.length_cons, List.length_nil, Nat.reduceAdd, Nat.reduceSub, List.replicate_succ, List.replicate_zero, List.cons_append, List.nil_append]
  have hf0 := file_all f
  refine AW.regl false [1, 2] (by rfl) fun K1 hK1 => ?_ -- region 0
  simp only [go_sem, Nat.reduceAdd, Nat.reduceEqDiff, Nat.reduceLeDiff, true_and, List.length_map, rdgm_get, dgm_all, file_all]
  refine hK1 _ _ ?_; try clear hK1 K1
  conv => enter [5]; simp only [setL_cons, setL_nil, List.set_cons_zero, List.set_cons_succ]
  refine AW.seq_k fun K2 hK2 => ?_
  refine AW.regl false [3] (by rfl) fun K3 hK3 => ?_ -- region 1
  simp only [go_sem, Nat.reduceAdd, Nat.reduceEqDiff, Nat.reduceLeDiff, true_and, List.length_map, rdgm_get, dgm_all, file_all]
  refine hK3 _ _ ?_; try clear hK3 K3
  conv => enter [5]; simp only [setL_cons, setL_nil, List.set_cons_zero, List.set_cons_succ]
  refine AW.block ?_
  -- LIVE but not told: [14, 15, 29, 30, 31, 32, 35, 36, 37, 38, 41, 42, 43, 44]
  refine AW.loop_dr (α := Nat) (fun i => [.any, (.ref σ.length 0), .any, (.val (.int .i64 (i : Nat))), .any, .any, .any, .any, .any, .any, .any, .any, .any, .any, .any, .any, .any, .any, .any, .any, .any, .any, .any, .any, .any, .any, .any, .any, .any, .any, .any, .any, .any, .any, .any, .any, .any, .any, .any, .any, .any, .any, .any, .any, .any, .any, .any, .any, .any, .any, .any, .any, .any, .any, .any, .any, .any, .any, .any, .any, .any, .any, .any, .any, .any, .any, .any, .any, .any, .any, .any, .any, .any, .any, .any, .any, .any, .any, .any, .any, .any, .any, .any, .any, .any, .any, .any, .any, .any, .any, .any, .any, .any, .any, .any, .any]) (fun i => σ ++ [.cells f.enc.cells]) (fun i => f.ds.length - i) (fun i => i ≤ f.ds.length ∧ i ≤ 13 ∧ (f.ds.take i).any Dgm.great = false) 0 ?_ ?_ ?_
  · exact ⟨⟨Nat.zero_le _, Nat.zero_le _, rfl⟩, by simp [Wk], rfl⟩
  · exact fun y _ => ⟨by simp [belL, AV.bel], bel_one⟩
  · rintro i ⟨hi, hi13, hit⟩
    refine AW.seq_k fun K4 hK4 => ?_
    -- LIVE [14, 15, 16]
    refine AW.regtf false 16 (.val (.bool (decide ((i : Int) < (f.ds.length : Int)) && decide ((i : Int) ≤ 12)))) (by rfl) ?_ ?_ -- region 2
    · skip
      cases h12 : (decide ((i : Int) < (f.ds.length : Int)))
      · skip
        simp only [go_sem, Nat.reduceAdd, Nat.reduceEqDiff, Nat.reduceLeDiff, true_and, List.length_map, rdgm_get, dgm_all, file_all, FileM.enc, h12]
        try simp [upd_at, h12, List.length_map, rdgm_get, dgm_all, file_all, FileM.enc]
      · skip
        simp only [go_sem, Nat.reduceAdd, Nat.reduceEqDiff, Nat.reduceLeDiff, true_and, List.length_map, rdgm_get, dgm_all, file_all, FileM.enc, h12]
        try simp [upd_at, h12, List.length_map, rdgm_get, dgm_all, file_all, FileM.enc]
    conv => enter [5]; simp only [List.set_cons_zero, List.set_cons_succ]
    refine AW.cond rfl (fun hc16 => ?_) (fun hc16 => ?_)
    · skip
      have hi0 : i < f.ds.length ∧ i ≤ 12 := by simp only [Bool.and_eq_true, decide_eq_true_eq] at hc16; omega
      have hi1 := hi0.1
      obtain ⟨d, hd⟩ : ∃ d, d = f.ds[i] := ⟨_, rfl⟩
      have hx : (f.ds.map Dgm.enc)[i]? = some d.enc := by rw [hd]; simp [hi1]
      have hdm : d ∈ f.ds.take 13 := by rw [hd]; exact List.mem_take_iff_getElem.2 ⟨i, by omega, rfl⟩
      refine AW.skip ?_
      refine hK4 _ _ ?_; try clear hK4 K4
      refine AW.seq_k fun K6 hK6 => ?_
      refine AW.block ?_
      refine AW.regl false [4] (by rfl) fun K7 hK7 => ?_ -- region 4
      simp only [go_sem, Nat.reduceAdd, Nat.reduceEqDiff, Nat.reduceLeDiff, true_and, List.length_map, rdgm_get, dgm_all, file_all, FileM.enc, at_row hx]
      refine hK7 _ _ ?_; try clear hK7 K7
      conv => enter [5]; simp only [setL_cons, setL_nil, List.set_cons_zero, List.set_cons_succ, upd_none, upd_at]
      refine AW.seq_k fun K8 hK8 => ?_
      -- LIVE [29, 30, 31, 32, 35, 36, 37, 38, 41, 42, 43, 44, 45]
      refine AW.regtf false 45 (.val (.bool (((decide ((d.ins.length : Int) > 40) || decide ((d.outs.length : Int) > 40)) || decide ((d.blocks.length : Int) > 200)) || decide ((d.name.size : Int) > 300)))) (by rfl) ?_ ?_ -- region 5
      · skip
        cases h27 : (decide ((d.ins.length : Int) > 40))
        · skip
          cases h32 : (decide ((d.outs.length : Int) > 40))
          · skip
            cases h38 : (decide ((d.blocks.length : Int) > 200))
            · skip
              simp only [go_sem, Nat.reduceAdd, Nat.reduceEqDiff, Nat.reduceLeDiff, true_and, List.length_map, rdgm_get, dgm_all, file_all, Dgm.enc, h27, h32, h38]
              try simp [upd_at, h27, h32, h38, List.length_map, rdgm_get, dgm_all, file_all, Dgm.enc]
            · skip
              simp only [go_sem, Nat.reduceAdd, Nat.reduceEqDiff, Nat.reduceLeDiff, true_and, List.length_map, rdgm_get, dgm_all, file_all, Dgm.enc, h27, h32, h38]
              try simp [upd_at, h27, h32, h38, List.length_map, rdgm_get, dgm_all, file_all, Dgm.enc]
          · skip
            simp only [go_sem, Nat.reduceAdd, Nat.reduceEqDiff, Nat.reduceLeDiff, true_and, List.length_map, rdgm_get, dgm_all, file_all, Dgm.enc, h27, h32]
            try simp [upd_at, h27, h32, List.length_map, rdgm_get, dgm_all, file_all, Dgm.enc]
        · skip
          simp only [go_sem, Nat.reduceAdd, Nat.reduceEqDiff, Nat.reduceLeDiff, true_and, List.length_map, rdgm_get, dgm_all, file_all, Dgm.enc, h27]
          try simp [upd_at, h27, List.length_map, rdgm_get, dgm_all, file_all, Dgm.enc]
      conv => enter [5]; simp only [List.set_cons_zero, List.set_cons_succ]
      refine AW.cond rfl (fun hc45 => ?_) (fun hc45 => ?_)
      · skip
        refine AW.regl false [2] (by rfl) fun K10 hK10 => ?_ -- region 6
        simp only [go_sem, Nat.reduceAdd, Nat.reduceEqDiff, Nat.reduceLeDiff, true_and, List.length_map, rdgm_get, dgm_all, file_all]
        refine hK10 _ _ ?_; try clear hK10 K10
        conv => enter [5]; simp only [setL_cons, setL_nil, List.set_cons_zero, List.set_cons_succ]
        refine AW.ret ⟨.inr rfl, _, rfl, by simp, ?_⟩ -- return 1
        refine frzB ?_
        have : d.great = true := by simp only [Dgm.great, hc45, Bool.true_or]
        simp only [FileM.great, List.any_eq_true.2 ⟨d, hdm, this⟩, Bool.true_or]
      · skip
        have hsz : d.ins.length ≤ 40 ∧ d.outs.length ≤ 40 ∧ d.blocks.length ≤ 200 := by simp only [Bool.or_eq_false_iff, decide_eq_false_iff_not] at hc45; omega
        refine AW.skip ?_
        refine hK8 _ _ ?_; try clear hK8 K8
        refine AW.seq_k fun K11 hK11 => ?_
        refine AW.regl false [5] (by rfl) fun K12 hK12 => ?_ -- region 7
        simp only [go_sem, Nat.reduceAdd, Nat.reduceEqDiff, Nat.reduceLeDiff, true_and, List.length_map, rdgm_get, dgm_all, file_all]
        refine hK12 _ _ ?_; try clear hK12 K12
        conv => enter [5]; simp only [setL_cons, setL_nil, List.set_cons_zero, List.set_cons_succ]
        refine AW.block ?_
        -- LIVE but not told: [14, 15, 29, 30, 31, 32, 35, 36, 37, 38, 41, 42, 43, 44]
        refine AW.loop_wk (α := Nat) (fun j => [.any, (.ref σ.length 0), .any, (.val (.int .i64 (i : Nat))), (.ref (σ.length + 1) 0), (.val (.int .i64 (j : Nat))), .any, .any, .any, .any, .any, .any, .any, .any, .any, .any, .any, .any, .any, .any, .any, .any, .any, .any, .any, .any, .any, .any, .any, .any, .any, .any, .any, .any, .any, .any, .any, .any, .any, .any, .any, .any, .any, .any, .any, .any, .any, .any, .any, .any, .any, .any, .any, .any, .any, .any, .any, .any, .any, .any, .any, .any, .any, .any, .any, .any, .any, .any, .any, .any, .any, .any, .any, .any, .any, .any, .any, .any, .any, .any, .any, .any, .any, .any, .any, .any, .any, .any, .any, .any, .any, .any, .any, .any, .any, .any]) (fun j => σ ++ [.cells f.enc.cells, .cells d.enc.cells]) (fun j => d.ins.length - j) (fun j => j ≤ d.ins.length ∧ (d.ins.take j).any PortM.great = false) 0 ?_ ?_
        · exact ⟨⟨Nat.zero_le _, rfl⟩, by simp [Wk], rfl⟩
        · rintro j ⟨hj, hjt⟩
          refine AW.seq_k fun K13 hK13 => ?_
          refine AW.regl false [50] (by rfl) fun K14 hK14 => ?_ -- region 8
          simp only [go_sem, Nat.reduceAdd, Nat.reduceEqDiff, Nat.reduceLeDiff, true_and, List.length_map, rdgm_get, dgm_all, file_all, Dgm.enc]
          refine hK14 _ _ ?_; try clear hK14 K14
          conv => enter [5]; simp only [setL_cons, setL_nil, List.set_cons_zero, List.set_cons_succ]
          refine AW.cond rfl (fun hc50 => ?_) (fun hc50 => ?_)
          · skip
            have hj1 : j < d.ins.length := by simpa using hc50
            have hy : (d.ins.map PortM.enc)[j]? = some (d.ins[j]).enc := by simp [hj1]
            refine AW.skip ?_
            refine hK13 _ _ ?_; try clear hK13 K13
            refine AW.seq_k fun K15 hK15 => ?_
            refine AW.block ?_
            refine AW.regl false [60] (by rfl) fun K16 hK16 => ?_ -- region 10
            simp only [go_sem, Nat.reduceAdd, Nat.reduceEqDiff, Nat.reduceLeDiff, true_and, List.length_map, rdgm_get, dgm_all, file_all, Dgm.enc, at_row hy, PortM.enc]
            refine hK16 _ _ ?_; try clear hK16 K16
            conv => enter [5]; simp only [setL_cons, setL_nil, List.set_cons_zero, List.set_cons_succ]
            refine AW.cond rfl (fun hc60 => ?_) (fun hc60 => ?_)
            · skip
              refine AW.regl false [2] (by rfl) fun K17 hK17 => ?_ -- region 11
              simp only [go_sem, Nat.reduceAdd, Nat.reduceEqDiff, Nat.reduceLeDiff, true_and, List.length_map, rdgm_get, dgm_all, file_all]
              refine hK17 _ _ ?_; try clear hK17 K17
              conv => enter [5]; simp only [setL_cons, setL_nil, List.set_cons_zero, List.set_cons_succ]
              refine AW.ret ⟨.inr rfl, _, rfl, by simp, ?_⟩ -- return 2
              refine frzB ?_
              have h1 : (d.ins.any PortM.great) = true := any_at hj1 hc60
              have : d.great = true := by simp only [Dgm.great, h1, Bool.true_or, Bool.or_true]
              simp only [FileM.great, List.any_eq_true.2 ⟨d, hdm, this⟩, Bool.true_or]
            · skip
              refine AW.skip ?_
              refine hK15 _ _ ?_; try clear hK15 K15
              refine AW.lastl false [5] (by rfl) fun K hK => ?_ -- region 9
              simp only [go_sem, Nat.reduceAdd, Nat.reduceEqDiff, Nat.reduceLeDiff, true_and, List.length_map, rdgm_get, dgm_all, file_all]
              refine hK _ _ fun env' hw => ?_
              simp only [setL_cons, setL_nil, List.set_cons_zero, List.set_cons_succ] at hw
              refine ⟨j + 1, by omega, ⟨by omega, any_step hj1 hjt hc60⟩, ?_, rfl⟩
              refine hw.trans ?_
              simp [Wk, wrap_succ (show j < 1000 by omega) (by decide)]
          · skip
            have hj1' : ¬ j < d.ins.length := by simpa using hc50
            have hA := any_end hj1' hjt
            refine AW.exit ?_
            refine hK11 _ _ ?_; try clear hK11 K11
            refine AW.seq_k fun K18 hK18 => ?_
            refine AW.regl false [6] (by rfl) fun K19 hK19 => ?_ -- region 12
            simp only [go_sem, Nat.reduceAdd, Nat.reduceEqDiff, Nat.reduceLeDiff, true_and, List.length_map, rdgm_get, dgm_all, file_all]
            refine hK19 _ _ ?_; try clear hK19 K19
            conv => enter [5]; simp only [setL_cons, setL_nil, List.set_cons_zero, List.set_cons_succ]
            refine AW.block ?_
            -- LIVE but not told: [14, 15, 29, 30, 31, 32, 35, 36, 37, 38, 41, 42, 43, 44]
            refine AW.loop_wk (α := Nat) (fun j => [.any, (.ref σ.length 0), .any, (.val (.int .i64 (i : Nat))), (.ref (σ.length + 1) 0), .any, (.val (.int .i64 (j : Nat))), .any, .any, .any, .any, .any, .any, .any, .any, .any, .any, .any, .any, .any, .any, .any, .any, .any, .any, .any, .any, .any, .any, .any, .any, .any, .any, .any, .any, .any, .any, .any, .any, .any, .any, .any, .any, .any, .any, .any, .any, .any, .any, .any, .any, .any, .any, .any, .any, .any, .any, .any, .any, .any, .any, .any, .any, .any, .any, .any, .any, .any, .any, .any, .any, .any, .any, .any, .any, .any, .any, .any, .any, .any, .any, .any, .any, .any, .any, .any, .any, .any, .any, .any, .any, .any, .any, .any, .any, .any]) (fun j => σ ++ [.cells f.enc.cells, .cells d.enc.cells]) (fun j => d.outs.length - j) (fun j => j ≤ d.outs.length ∧ (d.outs.take j).any OutM.great = false) 0 ?_ ?_
            · exact ⟨⟨Nat.zero_le _, rfl⟩, by simp [Wk], rfl⟩
            · rintro j ⟨hj, hjt⟩
              refine AW.seq_k fun K20 hK20 => ?_
              refine AW.regl false [65] (by rfl) fun K21 hK21 => ?_ -- region 13
              simp only [go_sem, Nat.reduceAdd, Nat.reduceEqDiff, Nat.reduceLeDiff, true_and, List.length_map, rdgm_get, dgm_all, file_all, Dgm.enc]
              refine hK21 _ _ ?_; try clear hK21 K21
              conv => enter [5]; simp only [setL_cons, setL_nil, List.set_cons_zero, List.set_cons_succ]
              refine AW.cond rfl (fun hc65 => ?_) (fun hc65 => ?_)
              · skip
                have hj1 : j < d.outs.length := by simpa using hc65
                have hy : (d.outs.map OutM.enc)[j]? = some (d.outs[j]).enc := by simp [hj1]
                refine AW.skip ?_
                refine hK20 _ _ ?_; try clear hK20 K20
                refine AW.seq_k fun K22 hK22 => ?_
                refine AW.block ?_
                refine AW.regl false [76] (by rfl) fun K23 hK23 => ?_ -- region 15
                simp only [go_sem, Nat.reduceAdd, Nat.reduceEqDiff, Nat.reduceLeDiff, true_and, List.length_map, rdgm_get, dgm_all, file_all, Dgm.enc, at_row hy, OutM.enc]
                refine hK23 _ _ ?_; try clear hK23 K23
                conv => enter [5]; simp only [setL_cons, setL_nil, List.set_cons_zero, List.set_cons_succ]
                refine AW.cond rfl (fun hc76 => ?_) (fun hc76 => ?_)
                · skip
                  refine AW.regl false [2] (by rfl) fun K24 hK24 => ?_ -- region 16
                  simp only [go_sem, Nat.reduceAdd, Nat.reduceEqDiff, Nat.reduceLeDiff, true_and, List.length_map, rdgm_get, dgm_all, file_all]
                  refine hK24 _ _ ?_; try clear hK24 K24
                  conv => enter [5]; simp only [setL_cons, setL_nil, List.set_cons_zero, List.set_cons_succ]
                  refine AW.ret ⟨.inr rfl, _, rfl, by simp, ?_⟩ -- return 3
                  refine frzB ?_
                  have h1 : (d.outs.any OutM.great) = true := any_at hj1 hc76
                  have : d.great = true := by simp only [Dgm.great, h1, Bool.true_or, Bool.or_true]
                  simp only [FileM.great, List.any_eq_true.2 ⟨d, hdm, this⟩, Bool.true_or]
                · skip
                  refine AW.skip ?_
                  refine hK22 _ _ ?_; try clear hK22 K22
                  refine AW.lastl false [6] (by rfl) fun K hK => ?_ -- region 14
                  simp only [go_sem, Nat.reduceAdd, Nat.reduceEqDiff, Nat.reduceLeDiff, true_and, List.length_map, rdgm_get, dgm_all, file_all]
                  refine hK _ _ fun env' hw => ?_
                  simp only [setL_cons, setL_nil, List.set_cons_zero, List.set_cons_succ] at hw
                  refine ⟨j + 1, by omega, ⟨by omega, any_step hj1 hjt hc76⟩, ?_, rfl⟩
                  refine hw.trans ?_
                  simp [Wk, wrap_succ (show j < 1000 by omega) (by decide)]
              · skip
                have hj1' : ¬ j < d.outs.length := by simpa using hc65
                have hB := any_end hj1' hjt
                refine AW.exit ?_
                refine hK18 _ _ ?_; try clear hK18 K18
                refine AW.regl false [7] (by rfl) fun K25 hK25 => ?_ -- region 17
                simp only [go_sem, Nat.reduceAdd, Nat.reduceEqDiff, Nat.reduceLeDiff, true_and, List.length_map, rdgm_get, dgm_all, file_all]
                refine hK25 _ _ ?_; try clear hK25 K25
                conv => enter [5]; simp only [setL_cons, setL_nil, List.set_cons_zero, List.set_cons_succ]
                refine AW.block ?_
                -- LIVE but not told: [14, 15, 29, 30, 31, 32, 35, 36, 37, 38, 41, 42, 43, 44]
                refine AW.loop_wk (α := Nat) (fun j => [.any, (.ref σ.length 0), .any, (.val (.int .i64 (i : Nat))), (.ref (σ.length + 1) 0), .any, .any, (.val (.int .i64 (j : Nat))), .any, .any, .any, .any, .any, .any, .any, .any, .any, .any, .any, .any, .any, .any, .any, .any, .any, .any, .any, .any, .any, .any, .any, .any, .any, .any, .any, .any, .any, .any, .any, .any, .any, .any, .any, .any, .any, .any, .any, .any, .any, .any, .any, .any, .any, .any, .any, .any, .any, .any, .any, .any, .any, .any, .any, .any, .any, .any, .any, .any, .any, .any, .any, .any, .any, .any, .any, .any, .any, .any, .any, .any, .any, .any, .any, .any, .any, .any, .any, .any, .any, .any, .any, .any, .any, .any, .any, .any]) (fun j => σ ++ [.cells f.enc.cells, .cells d.enc.cells]) (fun j => d.blocks.length - j) (fun j => j ≤ d.blocks.length ∧ (d.blocks.take j).any Blk.great = false) 0 ?_ ?_
                · exact ⟨⟨Nat.zero_le _, rfl⟩, by simp [Wk], rfl⟩
                · rintro j ⟨hj, hjt⟩
                  refine AW.seq_k fun K26 hK26 => ?_
                  refine AW.regl false [81] (by rfl) fun K27 hK27 => ?_ -- region 18
                  simp only [go_sem, Nat.reduceAdd, Nat.reduceEqDiff, Nat.reduceLeDiff, true_and, List.length_map, rdgm_get, dgm_all, file_all, Dgm.enc]
                  refine hK27 _ _ ?_; try clear hK27 K27
                  conv => enter [5]; simp only [setL_cons, setL_nil, List.set_cons_zero, List.set_cons_succ]
                  refine AW.cond rfl (fun hc81 => ?_) (fun hc81 => ?_)
                  · skip
                    have hj1 : j < d.blocks.length := by simpa using hc81
                    have hy : (d.blocks.map Blk.enc)[j]? = some (d.blocks[j]).enc := by simp [hj1]
                    refine AW.skip ?_
                    refine hK26 _ _ ?_; try clear hK26 K26
                    refine AW.seq_k fun K28 hK28 => ?_
                    refine AW.block ?_
                    refine AW.regl false [91] (by rfl) fun K29 hK29 => ?_ -- region 20
                    simp only [go_sem, Nat.reduceAdd, Nat.reduceEqDiff, Nat.reduceLeDiff, true_and, List.length_map, rdgm_get, dgm_all, file_all, Dgm.enc, at_row hy, Blk.enc]
                    refine hK29 _ _ ?_; try clear hK29 K29
                    conv => enter [5]; simp only [setL_cons, setL_nil, List.set_cons_zero, List.set_cons_succ]
                    refine AW.cond rfl (fun hc91 => ?_) (fun hc91 => ?_)
                    · skip
                      refine AW.regl false [2] (by rfl) fun K30 hK30 => ?_ -- region 21
                      simp only [go_sem, Nat.reduceAdd, Nat.reduceEqDiff, Nat.reduceLeDiff, true_and, List.length_map, rdgm_get, dgm_all, file_all]
                      refine hK30 _ _ ?_; try clear hK30 K30
                      conv => enter [5]; simp only [setL_cons, setL_nil, List.set_cons_zero, List.set_cons_succ]
                      refine AW.ret ⟨.inr rfl, _, rfl, by simp, ?_⟩ -- return 4
                      refine frzB ?_
                      have h1 : (d.blocks.any Blk.great) = true := any_at hj1 hc91
                      have : d.great = true := by simp only [Dgm.great, h1, Bool.true_or, Bool.or_true]
                      simp only [FileM.great, List.any_eq_true.2 ⟨d, hdm, this⟩, Bool.true_or]
                    · skip
                      refine AW.skip ?_
                      refine hK28 _ _ ?_; try clear hK28 K28
                      refine AW.lastl false [7] (by rfl) fun K hK => ?_ -- region 19
                      simp only [go_sem, Nat.reduceAdd, Nat.reduceEqDiff, Nat.reduceLeDiff, true_and, List.length_map, rdgm_get, dgm_all, file_all]
                      refine hK _ _ fun env' hw => ?_
                      simp only [setL_cons, setL_nil, List.set_cons_zero, List.set_cons_succ] at hw
                      refine ⟨j + 1, by omega, ⟨by omega, any_step hj1 hjt hc91⟩, ?_, rfl⟩
                      refine hw.trans ?_
                      simp [Wk, wrap_succ (show j < 1000 by omega) (by decide)]
                  · skip
                    have hj1' : ¬ j < d.blocks.length := by simpa using hc81
                    have hC := any_end hj1' hjt
                    refine AW.exit ?_
                    refine hK6 _ _ ?_; try clear hK6 K6
                    refine AW.lastl false [3] (by rfl) fun K hK => ?_ -- region 3
                    simp only [go_sem, Nat.reduceAdd, Nat.reduceEqDiff, Nat.reduceLeDiff, true_and, List.length_map, rdgm_get, dgm_all, file_all]
                    refine hK _ _ fun env' hw => ?_
                    simp only [setL_cons, setL_nil, List.set_cons_zero, List.set_cons_succ] at hw
                    refine ⟨i + 1, by omega, ⟨by omega, by omega, any_step hi1 hit (by rw [← hd]; simp only [Dgm.great, hA, hB, hC, hc45, Bool.or_self])⟩, ?_, by simp [List.take_append, List.take_of_length_le]⟩
                    refine hw.trans ?_
                    simp [Wk, wrap_succ (show i < 1000 by omega) (by decide)]
    · skip
      have hi0 : ¬ (i < f.ds.length ∧ i ≤ 12) := by simp only [Bool.and_eq_false_iff, decide_eq_false_iff_not] at hc16; omega
      refine AW.exit ?_
      refine hK2 _ _ ?_; try clear hK2 K2
      refine AW.regl false [2] (by rfl) fun K31 hK31 => ?_ -- region 22
      simp only [go_sem, Nat.reduceAdd, Nat.reduceEqDiff, Nat.reduceLeDiff, true_and, List.length_map, rdgm_get, dgm_all, file_all, FileM.enc]
      refine hK31 _ _ ?_; try clear hK31 K31
      conv => enter [5]; simp only [setL_cons, setL_nil, List.set_cons_zero, List.set_cons_succ]
      refine AW.ret ⟨.inr rfl, _, rfl, by simp, ?_⟩ -- return 5
      refine frzB ?_
      have h1 : f.ds.take 13 = f.ds.take i := by
        rcases Nat.lt_or_ge i 13 with h | h
        · rw [List.take_of_length_le (by omega), List.take_of_length_le (by omega)]
        · rw [show i = 13 by omega]
      simp only [FileM.great, h1, hit, Bool.false_or]

set_option maxRecDepth 100000 in
set_option maxHeartbeats 1000000 in
theorem rright_calls (f : FileM) (hs : f.small) : APure prog Γ 26 [f.enc] (.val (.bool f.rright)) := by
  refine APure.of func26 rfl fun σ => ?_
  simp only [ntmps26, List.length_cons, List.length_nil, Nat.reduceAdd, Nat.reduceSub, List.replicate_succ, List.replicate_zero, List.cons_append, List.nil_append]
  refine AW.regl false [1, 2] (by rfl) fun K1 hK1 => ?_ -- region 0
  simp only [go_sem, Nat.reduceAdd, Nat.reduceEqDiff, Nat.reduceLeDiff, true_and, List.length_map, rdgm_get, dgm_all, file_all, blk_all, rfile_get, rsrc_get, rblk_get]
  refine hK1 _ _ ?_; try clear hK1 K1
  conv => enter [5]; simp only [setL_cons, setL_nil, List.set_cons_zero, List.set_cons_succ]
  refine AW.seq_k fun K2 hK2 => ?_
  refine AW.regl false [3] (by rfl) fun K3 hK3 => ?_ -- region 1
  simp only [go_sem, Nat.reduceAdd, Nat.reduceEqDiff, Nat.reduceLeDiff, true_and, List.length_map, rdgm_get, dgm_all, file_all, blk_all, rfile_get, rsrc_get, rblk_get]
  refine hK3 _ _ ?_; try clear hK3 K3
  conv => enter [5]; simp only [setL_cons, setL_nil, List.set_cons_zero, List.set_cons_succ]
  refine AW.block ?_
  -- LIVE but not told: [43, 44, 45, 46, 47, 48, 49, 50, 70, 71, 72, 73, 74, 75, 76, 77, 80, 81, 82, 83, 84, 85, 86, 87, 88, 89]
  refine AW.loop_dr (α := Nat) (fun i => [.any, (.ref σ.length 0), .any, (.val (.int .i64 (i : Nat))), .any, .any, .any, .any, .any, .any, .any, .any, .any, .any, .any, .any, .any, .any, .any, .any, .any, .any, .any, .any, .any, .any, .any, .any, .any, .any, .any, .any, .any, .any, .any, .any, .any, .any, .any, .any, .any, .any, .any, .any, .any, .any, .any, .any, .any, .any, .any, .any, .any, .any, .any, .any, .any, .any, .any, .any, .any, .any, .any, .any, .any, .any, .any, .any, .any, .any, .any, .any, .any, .any, .any, .any, .any, .any, .any, .any, .any, .any, .any, .any, .any, .any, .any, .any, .any, .any, .any, .any, .any, .any, .any, .any, .any, .any, .any, .any, .any, .any, .any, .any, .any, .any, .any]) (fun i => σ ++ [.cells f.enc.cells]) (fun i => f.ds.length - i) (fun i => i ≤ f.ds.length ∧ (f.ds.take i).any f.rbad = false) 0 ?_ ?_ ?_
  · exact ⟨⟨Nat.zero_le _, rfl⟩, by simp [Wk], rfl⟩
  · exact fun y _ => ⟨by simp [belL, AV.bel], bel_one⟩
  · rintro i ⟨hi, hit⟩
    refine AW.seq_k fun K4 hK4 => ?_
    refine AW.regl false [14] (by rfl) fun K5 hK5 => ?_ -- region 2
    simp only [go_sem, Nat.reduceAdd, Nat.reduceEqDiff, Nat.reduceLeDiff, true_and, List.length_map, rdgm_get, dgm_all, file_all, blk_all, rfile_get, rsrc_get, rblk_get, FileM.enc]
    refine hK5 _ _ ?_; try clear hK5 K5
    conv => enter [5]; simp only [setL_cons, setL_nil, List.set_cons_zero, List.set_cons_succ]
    refine AW.cond rfl (fun hc14 => ?_) (fun hc14 => ?_)
    · skip
      have hi1 : i < f.ds.length := by simpa using hc14
      obtain ⟨d, hd⟩ : ∃ d, d = f.ds[i] := ⟨_, rfl⟩
      have hx : (f.ds.map Dgm.enc)[i]? = some d.enc := by rw [hd]; simp [hi1]
      have hdm : d ∈ f.ds := by rw [hd]; exact List.getElem_mem hi1
      obtain ⟨k1, k2, k3, k4, k5⟩ := hs.2 d hdm
      have hs1 := hs.1
      refine AW.skip ?_
      refine hK4 _ _ ?_; try clear hK4 K4
      refine AW.seq_k fun K6 hK6 => ?_
      refine AW.block ?_
      refine AW.regl false [4] (by rfl) fun K7 hK7 => ?_ -- region 4
      simp only [go_sem, Nat.reduceAdd, Nat.reduceEqDiff, Nat.reduceLeDiff, true_and, List.length_map, rdgm_get, dgm_all, file_all, blk_all, rfile_get, rsrc_get, rblk_get, FileM.enc, at_row hx]
      refine hK7 _ _ ?_; try clear hK7 K7
      conv => enter [5]; simp only [setL_cons, setL_nil, List.set_cons_zero, List.set_cons_succ, upd_none, upd_at]
      refine AW.seq_k fun K8 hK8 => ?_
      refine AW.regl false [25] (by rfl) fun K9 hK9 => ?_ -- region 5
      simp only [go_sem, Nat.reduceAdd, Nat.reduceEqDiff, Nat.reduceLeDiff, true_and, List.length_map, rdgm_get, dgm_all, file_all, blk_all, rfile_get, rsrc_get, rblk_get, Dgm.enc]
      refine hK9 _ _ ?_; try clear hK9 K9
      conv => enter [5]; simp only [setL_cons, setL_nil, List.set_cons_zero, List.set_cons_succ]
      refine AW.cond rfl (fun hc25 => ?_) (fun hc25 => ?_)
      · skip
        refine AW.regl false [2] (by rfl) fun K10 hK10 => ?_ -- region 6
        simp only [go_sem, Nat.reduceAdd, Nat.reduceEqDiff, Nat.reduceLeDiff, true_and, List.length_map, rdgm_get, dgm_all, file_all, blk_all, rfile_get, rsrc_get, rblk_get]
        refine hK10 _ _ ?_; try clear hK10 K10
        conv => enter [5]; simp only [setL_cons, setL_nil, List.set_cons_zero, List.set_cons_succ]
        refine AW.ret ⟨.inr rfl, _, rfl, by simp, ?_⟩ -- return 1
        refine frzB ?_
        have : f.rbad d = true := by simp only [FileM.rbad, hc25, Bool.true_or]
        simp only [FileM.rright, List.any_eq_true.2 ⟨d, hdm, this⟩, Bool.not_true]
      · skip
        refine AW.skip ?_
        refine hK8 _ _ ?_; try clear hK8 K8
        refine AW.seq_k fun K11 hK11 => ?_
        refine AW.regl false [5] (by rfl) fun K12 hK12 => ?_ -- region 7
        simp only [go_sem, Nat.reduceAdd, Nat.reduceEqDiff, Nat.reduceLeDiff, true_and, List.length_map, rdgm_get, dgm_all, file_all, blk_all, rfile_get, rsrc_get, rblk_get]
        refine hK12 _ _ ?_; try clear hK12 K12
        conv => enter [5]; simp only [setL_cons, setL_nil, List.set_cons_zero, List.set_cons_succ]
        refine AW.block ?_
        -- LIVE but not told: [43, 44, 45, 46, 47, 48, 49, 50, 70, 71, 72, 73, 74, 75, 76, 77, 80, 81, 82, 83, 84, 85, 86, 87, 88, 89]
        refine AW.loop_dr (α := Nat) (fun j => [.any, (.ref σ.length 0), .any, (.val (.int .i64 (i : Nat))), (.ref (σ.length + 1) 0), (.val (.int .i64 (j : Nat))), .any, .any, .any, .any, .any, .any, .any, .any, .any, .any, .any, .any, .any, .any, .any, .any, .any, .any, .any, .any, .any, .any, .any, .any, .any, .any, .any, .any, .any, .any, .any, .any, .any, .any, .any, .any, .any, .any, .any, .any, .any, .any, .any, .any, .any, .any, .any, .any, .any, .any, .any, .any, .any, .any, .any, .any, .any, .any, .any, .any, .any, .any, .any, .any, .any, .any, .any, .any, .any, .any, .any, .any, .any, .any, .any, .any, .any, .any, .any, .any, .any, .any, .any, .any, .any, .any, .any, .any, .any, .any, .any, .any, .any, .any, .any, .any, .any, .any, .any, .any, .any]) (fun j => σ ++ [.cells f.enc.cells, .cells d.enc.cells]) (fun j => d.ins.length - j) (fun j => j ≤ d.ins.length ∧ (d.ins.take j).any PortM.bad = false) 0 ?_ ?_ ?_
        · exact ⟨⟨Nat.zero_le _, rfl⟩, by simp [Wk], rfl⟩
        · exact fun y _ => ⟨by simp [belL, AV.bel], bel_one⟩
        · rintro j ⟨hj, hjt⟩
          refine AW.seq_k fun K13 hK13 => ?_
          refine AW.regl false [30] (by rfl) fun K14 hK14 => ?_ -- region 8
          simp only [go_sem, Nat.reduceAdd, Nat.reduceEqDiff, Nat.reduceLeDiff, true_and, List.length_map, rdgm_get, dgm_all, file_all, blk_all, rfile_get, rsrc_get, rblk_get, Dgm.enc]
          refine hK14 _ _ ?_; try clear hK14 K14
          conv => enter [5]; simp only [setL_cons, setL_nil, List.set_cons_zero, List.set_cons_succ]
          refine AW.cond rfl (fun hc30 => ?_) (fun hc30 => ?_)
          · skip
            have hj1 : j < d.ins.length := by simpa using hc30
            obtain ⟨p, hv⟩ : ∃ p, p = d.ins[j] := ⟨_, rfl⟩
            have hy : (d.ins.map PortM.enc)[j]? = some p.enc := by rw [hv]; simp [hj1]
            refine AW.skip ?_
            refine hK13 _ _ ?_; try clear hK13 K13
            refine AW.seq_k fun K15 hK15 => ?_
            refine AW.block ?_
            refine AW.regl false [6] (by rfl) fun K16 hK16 => ?_ -- region 10
            simp only [go_sem, Nat.reduceAdd, Nat.reduceEqDiff, Nat.reduceLeDiff, true_and, List.length_map, rdgm_get, dgm_all, file_all, blk_all, rfile_get, rsrc_get, rblk_get, Dgm.enc, at_row hy, PortM.enc]
            refine hK16 _ _ ?_; try clear hK16 K16
            conv => enter [5]; simp only [setL_cons, setL_nil, List.set_cons_zero, List.set_cons_succ, upd_none, upd_at]
            -- LIVE [43, 44, 45, 46, 47, 48, 49, 50, 51]
            refine AW.regtf false 51 (.val (.bool (decide ((p.name.size : Int) > 65535) || (p.type != 0 && p.type != 1)))) (by rfl) ?_ ?_ -- region 11
            · skip
              cases h41 : (decide ((p.name.size : Int) > 65535))
              · skip
                cases h45 : (p.type != 0)
                · skip
                  simp only [go_sem, Nat.reduceAdd, Nat.reduceEqDiff, Nat.reduceLeDiff, true_and, List.length_map, rdgm_get, dgm_all, file_all, blk_all, rfile_get, rsrc_get, rblk_get, h41, h45]
                  try simp [upd_at, h41, h45, List.length_map, rdgm_get, dgm_all, file_all, blk_all, rfile_get, rsrc_get, rblk_get]
                · skip
                  simp only [go_sem, Nat.reduceAdd, Nat.reduceEqDiff, Nat.reduceLeDiff, true_and, List.length_map, rdgm_get, dgm_all, file_all, blk_all, rfile_get, rsrc_get, rblk_get, h41, h45]
                  try simp [upd_at, h41, h45, List.length_map, rdgm_get, dgm_all, file_all, blk_all, rfile_get, rsrc_get, rblk_get]
              · skip
                simp only [go_sem, Nat.reduceAdd, Nat.reduceEqDiff, Nat.reduceLeDiff, true_and, List.length_map, rdgm_get, dgm_all, file_all, blk_all, rfile_get, rsrc_get, rblk_get, h41]
                try simp [upd_at, h41, List.length_map, rdgm_get, dgm_all, file_all, blk_all, rfile_get, rsrc_get, rblk_get]
            conv => enter [5]; simp only [List.set_cons_zero, List.set_cons_succ]
            refine AW.cond rfl (fun hc51 => ?_) (fun hc51 => ?_)
            · skip
              refine AW.regl false [2] (by rfl) fun K18 hK18 => ?_ -- region 12
              simp only [go_sem, Nat.reduceAdd, Nat.reduceEqDiff, Nat.reduceLeDiff, true_and, List.length_map, rdgm_get, dgm_all, file_all, blk_all, rfile_get, rsrc_get, rblk_get]
              refine hK18 _ _ ?_; try clear hK18 K18
              conv => enter [5]; simp only [setL_cons, setL_nil, List.set_cons_zero, List.set_cons_succ]
              refine AW.ret ⟨.inr rfl, _, rfl, by simp, ?_⟩ -- return 2
              refine frzB ?_
              have h1 : (d.ins.any PortM.bad) = true := any_at hj1 (by rw [← hv]; exact hc51)
              have : f.rbad d = true := by simp only [FileM.rbad, h1, Bool.true_or, Bool.or_true]
              simp only [FileM.rright, List.any_eq_true.2 ⟨d, hdm, this⟩, Bool.not_true]
            · skip
              refine AW.skip ?_
              refine hK15 _ _ ?_; try clear hK15 K15
              refine AW.lastl false [5] (by rfl) fun K hK => ?_ -- region 9
              simp only [go_sem, Nat.reduceAdd, Nat.reduceEqDiff, Nat.reduceLeDiff, true_and, List.length_map, rdgm_get, dgm_all, file_all, blk_all, rfile_get, rsrc_get, rblk_get]
              refine hK _ _ fun env' hw => ?_
              simp only [setL_cons, setL_nil, List.set_cons_zero, List.set_cons_succ] at hw
              refine ⟨j + 1, by omega, ⟨by omega, any_step hj1 hjt (by rw [← hv]; exact hc51)⟩, ?_, by simp [List.take_append, List.take_of_length_le, Dgm.enc, AV.cells]⟩
              refine hw.trans ?_
              simp [Wk, wrap_succ (show j < 1000 by omega) (by decide)]
          · skip
            have hj1 : ¬ j < d.ins.length := by simpa using hc30
            have hA := any_end hj1 hjt
            refine AW.exit ?_
            refine hK11 _ _ ?_; try clear hK11 K11
            refine AW.seq_k fun K19 hK19 => ?_
            refine AW.regl false [7] (by rfl) fun K20 hK20 => ?_ -- region 13
            simp only [go_sem, Nat.reduceAdd, Nat.reduceEqDiff, Nat.reduceLeDiff, true_and, List.length_map, rdgm_get, dgm_all, file_all, blk_all, rfile_get, rsrc_get, rblk_get]
            refine hK20 _ _ ?_; try clear hK20 K20
            conv => enter [5]; simp only [setL_cons, setL_nil, List.set_cons_zero, List.set_cons_succ]
            refine AW.block ?_
            -- LIVE but not told: [43, 44, 45, 46, 47, 48, 49, 50, 70, 71, 72, 73, 74, 75, 76, 77, 80, 81, 82, 83, 84, 85, 86, 87, 88, 89]
            refine AW.loop_dr (α := Nat) (fun j => [.any, (.ref σ.length 0), .any, (.val (.int .i64 (i : Nat))), (.ref (σ.length + 1) 0), .any, .any, (.val (.int .i64 (j : Nat))), .any, .any, .any, .any, .any, .any, .any, .any, .any, .any, .any, .any, .any, .any, .any, .any, .any, .any, .any, .any, .any, .any, .any, .any, .any, .any, .any, .any, .any, .any, .any, .any, .any, .any, .any, .any, .any, .any, .any, .any, .any, .any, .any, .any, .any, .any, .any, .any, .any, .any, .any, .any, .any, .any, .any, .any, .any, .any, .any, .any, .any, .any, .any, .any, .any, .any, .any, .any, .any, .any, .any, .any, .any, .any, .any, .any, .any, .any, .any, .any, .any, .any, .any, .any, .any, .any, .any, .any, .any, .any, .any, .any, .any, .any, .any, .any, .any, .any, .any]) (fun j => σ ++ [.cells f.enc.cells, .cells d.enc.cells]) (fun j => d.outs.length - j) (fun j => j ≤ d.outs.length ∧ (d.outs.take j).any (fun o => o.port.bad || !f.source d o.src) = false) 0 ?_ ?_ ?_
            · exact ⟨⟨Nat.zero_le _, rfl⟩, by simp [Wk], rfl⟩
            · exact fun y _ => ⟨by simp [belL, AV.bel], bel_one⟩
            · rintro j ⟨hj, hjt⟩
              refine AW.seq_k fun K21 hK21 => ?_
              refine AW.regl false [56] (by rfl) fun K22 hK22 => ?_ -- region 14
              simp only [go_sem, Nat.reduceAdd, Nat.reduceEqDiff, Nat.reduceLeDiff, true_and, List.length_map, rdgm_get, dgm_all, file_all, blk_all, rfile_get, rsrc_get, rblk_get, Dgm.enc]
              refine hK22 _ _ ?_; try clear hK22 K22
              conv => enter [5]; simp only [setL_cons, setL_nil, List.set_cons_zero, List.set_cons_succ]
              refine AW.cond rfl (fun hc56 => ?_) (fun hc56 => ?_)
              · skip
                have hj1 : j < d.outs.length := by simpa using hc56
                obtain ⟨o, hv⟩ : ∃ o, o = d.outs[j] := ⟨_, rfl⟩
                have hy : (d.outs.map OutM.enc)[j]? = some o.enc := by rw [hv]; simp [hj1]
                refine AW.skip ?_
                refine hK21 _ _ ?_; try clear hK21 K21
                refine AW.seq_k fun K23 hK23 => ?_
                refine AW.block ?_
                refine AW.regl false [8] (by rfl) fun K24 hK24 => ?_ -- region 16
                simp only [go_sem, Nat.reduceAdd, Nat.reduceEqDiff, Nat.reduceLeDiff, true_and, List.length_map, rdgm_get, dgm_all, file_all, blk_all, rfile_get, rsrc_get, rblk_get, Dgm.enc, at_row hy, OutM.enc]
                refine hK24 _ _ ?_; try clear hK24 K24
                conv => enter [5]; simp only [setL_cons, setL_nil, List.set_cons_zero, List.set_cons_succ, upd_none, upd_at]
                -- LIVE [70, 71, 72, 73, 74, 75, 76, 77, 80, 81, 82, 83, 84, 85, 86, 87, 88, 89, 90]
                refine AW.regtdf mixed false 90 (.val (.bool ((decide ((o.port.name.size : Int) > 65535) || (o.port.type != 0 && o.port.type != 1)) || !(f.source d o.src)))) (by kernel_rfl) (by rfl) ?_ ?_ -- region 17
                · skip
                  cases h68 : (decide ((o.port.name.size : Int) > 65535))
                  · skip
                    cases h72 : (o.port.type != 0)
                    · skip
                      simp only [go_sem, Nat.reduceAdd, Nat.reduceEqDiff, Nat.reduceLeDiff, true_and, List.length_map, rdgm_get, dgm_all, file_all, blk_all, rfile_get, rsrc_get, rblk_get, at_row hy, OutM.enc, Dgm.enc, Src.enc, h68, h72]
                      refine qC.of en56 ((rsource_calls f d o.src).on _).here (by rfl) ?_
                      simp only [go_sem, Nat.reduceAdd, Nat.reduceEqDiff, Nat.reduceLeDiff, true_and, List.length_map, rdgm_get, dgm_all, file_all, blk_all, rfile_get, rsrc_get, rblk_get, at_row hy, OutM.enc, Dgm.enc, Src.enc, h68, h72]
                      try simp [upd_at, h68, h72, List.length_map, rdgm_get, dgm_all, file_all, blk_all, rfile_get, rsrc_get, rblk_get, at_row hy, OutM.enc, Dgm.enc, Src.enc]
                    · skip
                      cases h76 : (o.port.type != 1)
                      · skip
                        simp only [go_sem, Nat.reduceAdd, Nat.reduceEqDiff, Nat.reduceLeDiff, true_and, List.length_map, rdgm_get, dgm_all, file_all, blk_all, rfile_get, rsrc_get, rblk_get, at_row hy, OutM.enc, Dgm.enc, Src.enc, h68, h72, h76]
                        refine qC.of en56 ((rsource_calls f d o.src).on _).here (by rfl) ?_
                        simp only [go_sem, Nat.reduceAdd, Nat.reduceEqDiff, Nat.reduceLeDiff, true_and, List.length_map, rdgm_get, dgm_all, file_all, blk_all, rfile_get, rsrc_get, rblk_get, at_row hy, OutM.enc, Dgm.enc, Src.enc, h68, h72, h76]
                        try simp [upd_at, h68, h72, h76, List.length_map, rdgm_get, dgm_all, file_all, blk_all, rfile_get, rsrc_get, rblk_get, at_row hy, OutM.enc, Dgm.enc, Src.enc]
                      · skip
                        simp only [go_sem, Nat.reduceAdd, Nat.reduceEqDiff, Nat.reduceLeDiff, true_and, List.length_map, rdgm_get, dgm_all, file_all, blk_all, rfile_get, rsrc_get, rblk_get, at_row hy, OutM.enc, Dgm.enc, Src.enc, h68, h72, h76]
                        try simp [upd_at, h68, h72, h76, List.length_map, rdgm_get, dgm_all, file_all, blk_all, rfile_get, rsrc_get, rblk_get, at_row hy, OutM.enc, Dgm.enc, Src.enc]
                  · skip
                    simp only [go_sem, Nat.reduceAdd, Nat.reduceEqDiff, Nat.reduceLeDiff, true_and, List.length_map, rdgm_get, dgm_all, file_all, blk_all, rfile_get, rsrc_get, rblk_get, at_row hy, OutM.enc, Dgm.enc, Src.enc, h68]
                    try simp [upd_at, h68, List.length_map, rdgm_get, dgm_all, file_all, blk_all, rfile_get, rsrc_get, rblk_get, at_row hy, OutM.enc, Dgm.enc, Src.enc]
                conv => enter [5]; simp only [List.set_cons_zero, List.set_cons_succ]
                refine AW.cond rfl (fun hc90 => ?_) (fun hc90 => ?_)
                · skip
                  refine AW.regl false [2] (by rfl) fun K26 hK26 => ?_ -- region 18
                  simp only [go_sem, Nat.reduceAdd, Nat.reduceEqDiff, Nat.reduceLeDiff, true_and, List.length_map, rdgm_get, dgm_all, file_all, blk_all, rfile_get, rsrc_get, rblk_get]
                  refine hK26 _ _ ?_; try clear hK26 K26
                  conv => enter [5]; simp only [setL_cons, setL_nil, List.set_cons_zero, List.set_cons_succ]
                  refine AW.ret ⟨.inr rfl, _, rfl, by simp, ?_⟩ -- return 3
                  refine frzB ?_
                  have h1 : (d.outs.any (fun o => o.port.bad || !f.source d o.src)) = true := any_at hj1 (by rw [← hv]; exact hc90)
                  have : f.rbad d = true := by simp only [FileM.rbad, h1, Bool.true_or, Bool.or_true]
                  simp only [FileM.rright, List.any_eq_true.2 ⟨d, hdm, this⟩, Bool.not_true]
                · skip
                  refine AW.skip ?_
                  refine hK23 _ _ ?_; try clear hK23 K23
                  refine AW.lastl false [7] (by rfl) fun K hK => ?_ -- region 15
                  simp only [go_sem, Nat.reduceAdd, Nat.reduceEqDiff, Nat.reduceLeDiff, true_and, List.length_map, rdgm_get, dgm_all, file_all, blk_all, rfile_get, rsrc_get, rblk_get]
                  refine hK _ _ fun env' hw => ?_
                  simp only [setL_cons, setL_nil, List.set_cons_zero, List.set_cons_succ] at hw
                  refine ⟨j + 1, by omega, ⟨by omega, any_step hj1 hjt (by rw [← hv]; exact hc90)⟩, ?_, by simp [List.take_append, List.take_of_length_le, Dgm.enc, AV.cells]⟩
                  refine hw.trans ?_
                  simp [Wk, wrap_succ (show j < 1000 by omega) (by decide)]
              · skip
                have hj1 : ¬ j < d.outs.length := by simpa using hc56
                have hB := any_end hj1 hjt
                refine AW.exit ?_
                refine hK19 _ _ ?_; try clear hK19 K19
                refine AW.regl false [9] (by rfl) fun K27 hK27 => ?_ -- region 19
                simp only [go_sem, Nat.reduceAdd, Nat.reduceEqDiff, Nat.reduceLeDiff, true_and, List.length_map, rdgm_get, dgm_all, file_all, blk_all, rfile_get, rsrc_get, rblk_get]
                refine hK27 _ _ ?_; try clear hK27 K27
                conv => enter [5]; simp only [setL_cons, setL_nil, List.set_cons_zero, List.set_cons_succ]
                refine AW.block ?_
                -- LIVE but not told: [43, 44, 45, 46, 47, 48, 49, 50, 70, 71, 72, 73, 74, 75, 76, 77, 80, 81, 82, 83, 84, 85, 86, 87, 88, 89]
                refine AW.loop_wk (α := Nat) (fun j => [.any, (.ref σ.length 0), .any, (.val (.int .i64 (i : Nat))), (.ref (σ.length + 1) 0), .any, .any, .any, .any, (.val (.int .i64 (j : Nat))), .any, .any, .any, .any, .any, .any, .any, .any, .any, .any, .any, .any, .any, .any, .any, .any, .any, .any, .any, .any, .any, .any, .any, .any, .any, .any, .any, .any, .any, .any, .any, .any, .any, .any, .any, .any, .any, .any, .any, .any, .any, .any, .any, .any, .any, .any, .any, .any, .any, .any, .any, .any, .any, .any, .any, .any, .any, .any, .any, .any, .any, .any, .any, .any, .any, .any, .any, .any, .any, .any, .any, .any, .any, .any, .any, .any, .any, .any, .any, .any, .any, .any, .any, .any, .any, .any, .any, .any, .any, .any, .any, .any, .any, .any, .any, .any, .any]) (fun j => σ ++ [.cells f.enc.cells, .cells d.enc.cells]) (fun j => d.blocks.length - j) (fun j => j ≤ d.blocks.length ∧ (d.blocks.take j).any (fun b => !f.rblock d b) = false) 0 ?_ ?_
                · exact ⟨⟨Nat.zero_le _, rfl⟩, by simp [Wk], rfl⟩
                · rintro j ⟨hj, hjt⟩
                  refine AW.seq_k fun K28 hK28 => ?_
                  refine AW.regl false [95] (by rfl) fun K29 hK29 => ?_ -- region 20
                  simp only [go_sem, Nat.reduceAdd, Nat.reduceEqDiff, Nat.reduceLeDiff, true_and, List.length_map, rdgm_get, dgm_all, file_all, blk_all, rfile_get, rsrc_get, rblk_get, Dgm.enc]
                  refine hK29 _ _ ?_; try clear hK29 K29
                  conv => enter [5]; simp only [setL_cons, setL_nil, List.set_cons_zero, List.set_cons_succ]
                  refine AW.cond rfl (fun hc95 => ?_) (fun hc95 => ?_)
                  · skip
                    have hj1 : j < d.blocks.length := by simpa using hc95
                    obtain ⟨b, hv⟩ : ∃ b, b = d.blocks[j] := ⟨_, rfl⟩
                    have hy : (d.blocks.map Blk.enc)[j]? = some b.enc := by rw [hv]; simp [hj1]
                    refine AW.skip ?_
                    refine hK28 _ _ ?_; try clear hK28 K28
                    refine AW.seq_k fun K30 hK30 => ?_
                    refine AW.block ?_
                    refine AW.regdl mixed false [106] (by kernel_rfl) (by rfl) fun K31 hK31 => ?_ -- region 22
                    simp only [go_sem, Nat.reduceAdd, Nat.reduceEqDiff, Nat.reduceLeDiff, true_and, List.length_map, rdgm_get, dgm_all, file_all, blk_all, rfile_get, rsrc_get, rblk_get, at_row hy, Dgm.enc]
                    refine qC.of en57 ((rblock_calls f d b (k5 b (by rw [hv]; exact List.getElem_mem hj1))).on _).here (by rfl) ?_
                    simp only [go_sem, Nat.reduceAdd, Nat.reduceEqDiff, Nat.reduceLeDiff, true_and, List.length_map, rdgm_get, dgm_all, file_all, blk_all, rfile_get, rsrc_get, rblk_get, at_row hy, Dgm.enc]
                    refine hK31 _ ?_; try clear hK31 K31
                    conv => enter [5]; simp only [setL_cons, setL_nil, List.set_cons_zero, List.set_cons_succ]
                    refine AW.cond rfl (fun hc106 => ?_) (fun hc106 => ?_)
                    · skip
                      refine AW.regl false [2] (by rfl) fun K32 hK32 => ?_ -- region 23
                      simp only [go_sem, Nat.reduceAdd, Nat.reduceEqDiff, Nat.reduceLeDiff, true_and, List.length_map, rdgm_get, dgm_all, file_all, blk_all, rfile_get, rsrc_get, rblk_get]
                      refine hK32 _ _ ?_; try clear hK32 K32
                      conv => enter [5]; simp only [setL_cons, setL_nil, List.set_cons_zero, List.set_cons_succ]
                      refine AW.ret ⟨.inr rfl, _, rfl, by simp, ?_⟩ -- return 4
                      refine frzB ?_
                      have h1 : (d.blocks.any (fun b => !f.rblock d b)) = true := any_at hj1 (by rw [← hv]; exact hc106)
                      have : f.rbad d = true := by simp only [FileM.rbad, h1, Bool.true_or, Bool.or_true]
                      simp only [FileM.rright, List.any_eq_true.2 ⟨d, hdm, this⟩, Bool.not_true]
                    · skip
                      refine AW.skip ?_
                      refine hK30 _ _ ?_; try clear hK30 K30
                      refine AW.lastl false [9] (by rfl) fun K hK => ?_ -- region 21
                      simp only [go_sem, Nat.reduceAdd, Nat.reduceEqDiff, Nat.reduceLeDiff, true_and, List.length_map, rdgm_get, dgm_all, file_all, blk_all, rfile_get, rsrc_get, rblk_get]
                      refine hK _ _ fun env' hw => ?_
                      simp only [setL_cons, setL_nil, List.set_cons_zero, List.set_cons_succ] at hw
                      refine ⟨j + 1, by omega, ⟨by omega, any_step hj1 hjt (by rw [← hv]; exact hc106)⟩, ?_, rfl⟩
                      refine hw.trans ?_
                      simp [Wk, wrap_succ (show j < 1000 by omega) (by decide)]
                  · skip
                    have hj1 : ¬ j < d.blocks.length := by simpa using hc95
                    have hC := any_end hj1 hjt
                    refine AW.exit ?_
                    refine hK6 _ _ ?_; try clear hK6 K6
                    refine AW.lastl false [3] (by rfl) fun K hK => ?_ -- region 3
                    simp only [go_sem, Nat.reduceAdd, Nat.reduceEqDiff, Nat.reduceLeDiff, true_and, List.length_map, rdgm_get, dgm_all, file_all, blk_all, rfile_get, rsrc_get, rblk_get]
                    refine hK _ _ fun env' hw => ?_
                    simp only [setL_cons, setL_nil, List.set_cons_zero, List.set_cons_succ] at hw
                    refine ⟨i + 1, by omega, ⟨by omega, any_step hi1 hit (by rw [← hd]; simp only [FileM.rbad, hA, hB, hC, hc25, Bool.or_self])⟩, ?_, by simp [List.take_append, List.take_of_length_le]⟩
                    refine hw.trans ?_
                    simp [Wk, wrap_succ (show i < 1000 by omega) (by decide)]
    · skip
      have hi1 : ¬ i < f.ds.length := by simpa using hc14
      refine AW.exit ?_
      refine hK2 _ _ ?_; try clear hK2 K2
      refine AW.regl false [2] (by rfl) fun K33 hK33 => ?_ -- region 24
      simp only [go_sem, Nat.reduceAdd, Nat.reduceEqDiff, Nat.reduceLeDiff, true_and, List.length_map, rdgm_get, dgm_all, file_all, blk_all, rfile_get, rsrc_get, rblk_get]
      refine hK33 _ _ ?_; try clear hK33 K33
      conv => enter [5]; simp only [setL_cons, setL_nil, List.set_cons_zero, List.set_cons_succ]
      refine AW.ret ⟨.inr rfl, _, rfl, by simp, ?_⟩ -- return 5
      refine frzB ?_
      simp only [FileM.rright, any_end hi1 hit, Bool.not_false]
end Go.Proofs.Tryd
