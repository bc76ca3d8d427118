import Derived.Test.YteekpkbmkibacaaDoorDiagM
import Derived.Test.YteekpkbmkibacaaDoorDiagK
/-! What the document says of blocks. -/
namespace Go.Proofs.Tryd
set_option linter.unusedSimpArgs false
set_option linter.unusedVariables false
open Go Go.Proofs.Ev
variable {Γ : List (Nat × List AV)}
set_option maxRecDepth 100000 in
theorem rresults_calls (f : FileM) (b : Blk) : APure prog Γ 31 [f.enc, b.enc] (.val (.int .i64 (f.results b))) := by
  refine APure.of func31 rfl fun σ => ?_
  simp only [ntmps31, List.length_cons, List.length_nil, Nat.reduceAdd, Nat.reduceSub, List.replicate_succ, List.replicate_zero, List.cons_append, List.nil_append]
  obtain ⟨kind, op, sub, bn, bx, by', nl, src⟩ := b
  obtain ⟨fnl, ds⟩ := f
  refine AW.regl false [2, 3, 4] (by rfl) fun K1 hK1 => ?_ -- region 0
  simp only [go_sem, Nat.reduceAdd, Nat.reduceEqDiff, Nat.reduceLeDiff, true_and, FileM.enc, Blk.enc, List.length_map]
  refine hK1 _ _ ?_; try clear hK1 K1
  conv => enter [5]; simp only [setL_cons, setL_nil, List.set_cons_zero, List.set_cons_succ]
  refine AW.seq_k fun K2 hK2 => ?_
  refine AW.regtf false 12 (.val (.bool (decide (kind < 0) || decide (kind > 7)))) (by rfl) ?_ ?_ -- region 1
  · skip
    cases h7 : (decide (kind < 0))
    · skip
      simp only [go_sem, Nat.reduceAdd, Nat.reduceEqDiff, Nat.reduceLeDiff, true_and, FileM.enc, Blk.enc, List.length_map, h7]
      try simp [upd_at, h7, FileM.enc, Blk.enc, List.length_map]
    · skip
      simp only [go_sem, Nat.reduceAdd, Nat.reduceEqDiff, Nat.reduceLeDiff, true_and, FileM.enc, Blk.enc, List.length_map, h7]
      try simp [upd_at, h7, FileM.enc, Blk.enc, List.length_map]
  conv => enter [5]; simp only [List.set_cons_zero, List.set_cons_succ]
  refine AW.cond rfl (fun hc12 => ?_) (fun hc12 => ?_)
  · skip
    refine AW.regl false [4] (by rfl) fun K4 hK4 => ?_ -- region 2
    simp only [go_sem, Nat.reduceAdd, Nat.reduceEqDiff, Nat.reduceLeDiff, true_and, FileM.enc, Blk.enc, List.length_map]
    refine hK4 _ _ ?_; try clear hK4 K4
    conv => enter [5]; simp only [setL_cons, setL_nil, List.set_cons_zero, List.set_cons_succ]
    refine AW.ret ⟨.inr rfl, _, rfl, by simp, ?_⟩ -- return 1
    simp only [FileM.results]
    rw [if_pos hc12]
    exact .keep rfl
  · skip
    refine AW.skip ?_
    refine hK2 _ _ ?_; try clear hK2 K2
    refine AW.seq_k fun K5 hK5 => ?_
    refine AW.regl false [15] (by rfl) fun K6 hK6 => ?_ -- region 3
    simp only [go_sem, Nat.reduceAdd, Nat.reduceEqDiff, Nat.reduceLeDiff, true_and, FileM.enc, Blk.enc, List.length_map]
    refine hK6 _ _ ?_; try clear hK6 K6
    conv => enter [5]; simp only [setL_cons, setL_nil, List.set_cons_zero, List.set_cons_succ]
    refine AW.cond rfl (fun hc15 => ?_) (fun hc15 => ?_)
    · skip
      refine AW.regl false [4] (by rfl) fun K7 hK7 => ?_ -- region 4
      simp only [go_sem, Nat.reduceAdd, Nat.reduceEqDiff, Nat.reduceLeDiff, true_and, FileM.enc, Blk.enc, List.length_map]
      refine hK7 _ _ ?_; try clear hK7 K7
      conv => enter [5]; simp only [setL_cons, setL_nil, List.set_cons_zero, List.set_cons_succ]
      refine AW.ret ⟨.inr rfl, _, rfl, by simp, ?_⟩ -- return 2
      simp only [FileM.results]
      rw [if_neg (ne_true_of_eq_false hc12), if_pos hc15]
      exact .keep rfl
    · skip
      refine AW.skip ?_
      refine hK5 _ _ ?_; try clear hK5 K5
      refine AW.seq_k fun K8 hK8 => ?_
      refine AW.regtf false 26 (.val (.bool (decide (sub < 0) || decide (sub ≥ (ds.length : Int))))) (by rfl) ?_ ?_ -- region 5
      · skip
        cases h18 : (decide (sub < 0))
        · skip
          simp only [go_sem, Nat.reduceAdd, Nat.reduceEqDiff, Nat.reduceLeDiff, true_and, FileM.enc, Blk.enc, List.length_map, h18]
          try simp [upd_at, h18, FileM.enc, Blk.enc, List.length_map]
        · skip
          simp only [go_sem, Nat.reduceAdd, Nat.reduceEqDiff, Nat.reduceLeDiff, true_and, FileM.enc, Blk.enc, List.length_map, h18]
          try simp [upd_at, h18, FileM.enc, Blk.enc, List.length_map]
      conv => enter [5]; simp only [List.set_cons_zero, List.set_cons_succ]
      refine AW.cond rfl (fun hc26 => ?_) (fun hc26 => ?_)
      · skip
        refine AW.regl false [4] (by rfl) fun K10 hK10 => ?_ -- region 6
        simp only [go_sem, Nat.reduceAdd, Nat.reduceEqDiff, Nat.reduceLeDiff, true_and, FileM.enc, Blk.enc, List.length_map]
        refine hK10 _ _ ?_; try clear hK10 K10
        conv => enter [5]; simp only [setL_cons, setL_nil, List.set_cons_zero, List.set_cons_succ]
        refine AW.ret ⟨.inr rfl, _, rfl, by simp, ?_⟩ -- return 3
        simp only [FileM.results]
        rw [if_neg (ne_true_of_eq_false hc12), if_neg (ne_true_of_eq_false hc15), if_pos hc26]
        exact .keep rfl
      · skip
        have h0 : ¬ sub < 0 ∧ sub < ds.length := by simpa using hc26
        obtain ⟨j, rfl⟩ := Int.eq_ofNat_of_zero_le (by omega : 0 ≤ sub)
        have hj : j < ds.length := by omega
        have hx : (ds.map Dgm.enc)[j]? = some (ds[j]).enc := by simp [hj]
        refine AW.skip ?_
        refine hK8 _ _ ?_; try clear hK8 K8
        refine AW.regl false [4] (by rfl) fun K11 hK11 => ?_ -- region 7
        simp only [go_sem, Nat.reduceAdd, Nat.reduceEqDiff, Nat.reduceLeDiff, true_and, FileM.enc, Blk.enc, List.length_map, at_row hx, Dgm.enc]
        refine hK11 _ _ ?_; try clear hK11 K11
        conv => enter [5]; simp only [setL_cons, setL_nil, List.set_cons_zero, List.set_cons_succ]
        refine AW.ret ⟨.inr rfl, _, rfl, by simp, ?_⟩ -- return 4
        simp only [FileM.results]
        rw [if_neg (ne_true_of_eq_false hc12), if_neg (ne_true_of_eq_false hc15), if_neg (ne_true_of_eq_false hc26)]
        simp only [Int.toNat_natCast, List.getElem?_eq_getElem hj]
        exact .keep rfl

set_option maxRecDepth 100000 in
theorem rsource_calls (f : FileM) (d : Dgm) (s : Src) : APure prog Γ 56 [f.enc, d.enc, s.enc] (.val (.bool (f.source d s))) := by
  refine APure.of func56 rfl fun σ => ?_
  simp only [ntmps56, List.length_cons, List.length_nil, Nat.reduceAdd, Nat.reduceSub, List.replicate_succ, List.replicate_zero, List.cons_append, List.nil_append]
  obtain ⟨block, port⟩ := s
  obtain ⟨name, nlI, ins, nlO, outs, nlB, blocks⟩ := d
  refine AW.regl false [3, 4, 5, 6] (by rfl) fun K1 hK1 => ?_ -- region 0
  simp only [go_sem, Nat.reduceAdd, Nat.reduceEqDiff, Nat.reduceLeDiff, true_and, FileM.enc, Dgm.enc, Src.enc, List.length_map]
  refine hK1 _ _ ?_; try clear hK1 K1
  conv => enter [5]; simp only [setL_cons, setL_nil, List.set_cons_zero, List.set_cons_succ]
  refine AW.seq_k fun K2 hK2 => ?_
  refine AW.regtf false 22 (.val (.bool ((decide (port < 0) || decide (block < -1)) || decide (block ≥ (blocks.length : Int))))) (by rfl) ?_ ?_ -- region 1
  · skip
    cases h9 : (decide (port < 0))
    · skip
      cases h13 : (decide (block < -1))
      · skip
        simp only [go_sem, Nat.reduceAdd, Nat.reduceEqDiff, Nat.reduceLeDiff, true_and, FileM.enc, Dgm.enc, Src.enc, List.length_map, h9, h13]
        try simp [upd_at, h9, h13, FileM.enc, Dgm.enc, Src.enc, List.length_map]
      · skip
        simp only [go_sem, Nat.reduceAdd, Nat.reduceEqDiff, Nat.reduceLeDiff, true_and, FileM.enc, Dgm.enc, Src.enc, List.length_map, h9, h13]
        try simp [upd_at, h9, h13, FileM.enc, Dgm.enc, Src.enc, List.length_map]
    · skip
      simp only [go_sem, Nat.reduceAdd, Nat.reduceEqDiff, Nat.reduceLeDiff, true_and, FileM.enc, Dgm.enc, Src.enc, List.length_map, h9]
      try simp [upd_at, h9, FileM.enc, Dgm.enc, Src.enc, List.length_map]
  conv => enter [5]; simp only [List.set_cons_zero, List.set_cons_succ]
  refine AW.cond rfl (fun hc22 => ?_) (fun hc22 => ?_)
  · skip
    refine AW.regl false [6] (by rfl) fun K4 hK4 => ?_ -- region 2
    simp only [go_sem, Nat.reduceAdd, Nat.reduceEqDiff, Nat.reduceLeDiff, true_and, FileM.enc, Dgm.enc, Src.enc, List.length_map]
    refine hK4 _ _ ?_; try clear hK4 K4
    conv => enter [5]; simp only [setL_cons, setL_nil, List.set_cons_zero, List.set_cons_succ]
    refine AW.ret ⟨.inr rfl, _, rfl, by simp, ?_⟩ -- return 1
    refine frzB ?_
    simp only [FileM.source]
    simp only [Bool.or_eq_true, decide_eq_true_eq] at hc22
    by_cases h1 : block = -1
    · rw [h1]
      rw [h1] at hc22
      have : ¬ port ≥ 0 := by omega
      simp [this]
    · rw [if_pos (by simp [h1])]
      by_cases h2 : (decide (block < 0) || decide (block ≥ (blocks.length : Int))) = true
      · rw [if_pos h2]
      · rw [if_neg h2]
        have h3 : ¬ block < 0 ∧ block < blocks.length := by simpa using h2
        have : ¬ port ≥ 0 := by omega
        split
        · simp [this]
        · rfl
  · skip
    refine AW.skip ?_
    refine hK2 _ _ ?_; try clear hK2 K2
    refine AW.seq_k fun K5 hK5 => ?_
    refine AW.regl false [25] (by rfl) fun K6 hK6 => ?_ -- region 3
    simp only [go_sem, Nat.reduceAdd, Nat.reduceEqDiff, Nat.reduceLeDiff, true_and, FileM.enc, Dgm.enc, Src.enc, List.length_map]
    refine hK6 _ _ ?_; try clear hK6 K6
    conv => enter [5]; simp only [setL_cons, setL_nil, List.set_cons_zero, List.set_cons_succ]
    refine AW.cond rfl (fun hc25 => ?_) (fun hc25 => ?_)
    · skip
      refine AW.regl false [6] (by rfl) fun K7 hK7 => ?_ -- region 4
      simp only [go_sem, Nat.reduceAdd, Nat.reduceEqDiff, Nat.reduceLeDiff, true_and, FileM.enc, Dgm.enc, Src.enc, List.length_map]
      refine hK7 _ _ ?_; try clear hK7 K7
      conv => enter [5]; simp only [setL_cons, setL_nil, List.set_cons_zero, List.set_cons_succ]
      refine AW.ret ⟨.inr rfl, _, rfl, by simp, ?_⟩ -- return 2
      refine frzB ?_
      have h0 : ¬ port < 0 ∧ ¬ block < -1 ∧ block < blocks.length := by simpa [and_assoc] using hc22
      simp only [FileM.source]
      have h1 : block = -1 := by simpa using hc25
      rw [h1]
      have : port ≥ 0 := by omega
      simp [this]
    · skip
      have h0 : ¬ port < 0 ∧ ¬ block < -1 ∧ block < blocks.length := by simpa [and_assoc] using hc22
      have h1 : block ≠ -1 := by simpa using hc25
      obtain ⟨j, rfl⟩ := Int.eq_ofNat_of_zero_le (by omega : 0 ≤ block)
      have hj : j < blocks.length := by omega
      have hx : (blocks.map Blk.enc)[j]? = some (blocks[j]).enc := by simp [hj]
      refine AW.skip ?_
      refine hK5 _ _ ?_; try clear hK5 K5
      refine AW.regdl mixed false [6] (by kernel_rfl) (by rfl) fun K8 hK8 => ?_ -- region 5
      simp only [go_sem, Nat.reduceAdd, Nat.reduceEqDiff, Nat.reduceLeDiff, true_and, FileM.enc, Dgm.enc, Src.enc, List.length_map, at_row hx, rblk_get]
      refine qC.of en31 ((rresults_calls f blocks[j]).on _).here (by rfl) ?_
      simp only [go_sem, Nat.reduceAdd, Nat.reduceEqDiff, Nat.reduceLeDiff, true_and, FileM.enc, Dgm.enc, Src.enc, List.length_map, at_row hx, rblk_get]
      refine hK8 _ ?_; try clear hK8 K8
      conv => enter [5]; simp only [setL_cons, setL_nil, List.set_cons_zero, List.set_cons_succ]
      refine AW.ret ⟨.inr rfl, _, rfl, by simp, ?_⟩ -- return 3
      refine frzB ?_
      simp only [FileM.source]
      rw [if_pos (by simp only [bne_iff_ne]; exact h1), if_neg (by simp only [Bool.or_eq_true, decide_eq_true_eq]; omega)]
      simp only [Int.toNat_natCast, List.getElem?_eq_getElem hj]
      have : (port ≥ 0) := by omega
      simp [this]

set_option maxRecDepth 100000 in
set_option maxHeartbeats 1000000 in
theorem rblock_calls (f : FileM) (d : Dgm) (b : Blk) (hb : b.src.length ≤ 40) : APure prog Γ 57 [f.enc, d.enc, b.enc] (.val (.bool (f.rblock d b))) := by
  refine APure.of func57 rfl fun σ => ?_
  simp only [ntmps57, List.length_cons, List.length_nil, Nat.reduceAdd, Nat.reduceSub, List.replicate_succ, List.replicate_zero, List.cons_append, List.nil_append]
  refine AW.regl false [3, 4, 5, 6] (by rfl) fun K1 hK1 => ?_ -- region 0
  simp only [go_sem, Nat.reduceAdd, Nat.reduceEqDiff, Nat.reduceLeDiff, true_and, List.length_map, rdgm_get, dgm_all, file_all, blk_all, rfile_get, rsrc_get]
  refine hK1 _ _ ?_; try clear hK1 K1
  conv => enter [5]; simp only [setL_cons, setL_nil, List.set_cons_zero, List.set_cons_succ]
  refine AW.seq_k fun K2 hK2 => ?_
  refine AW.regtf false 31 (.val (.bool ((((decide (b.kind < 0) || decide (b.kind > 7)) || decide (b.n < 0)) || decide (b.op < 0)) || decide (b.sub < 0)))) (by rfl) ?_ ?_ -- region 1
  · skip
    cases h11 : (decide (b.kind < 0))
    · skip
      cases h15 : (decide (b.kind > 7))
      · skip
        cases h20 : (decide (b.n < 0))
        · skip
          cases h25 : (decide (b.op < 0))
          · skip
            simp only [go_sem, Nat.reduceAdd, Nat.reduceEqDiff, Nat.reduceLeDiff, true_and, List.length_map, rdgm_get, dgm_all, file_all, blk_all, rfile_get, rsrc_get, Blk.enc, h11, h15, h20, h25]
            try simp [upd_at, h11, h15, h20, h25, List.length_map, rdgm_get, dgm_all, file_all, blk_all, rfile_get, rsrc_get, Blk.enc]
          · skip
            simp only [go_sem, Nat.reduceAdd, Nat.reduceEqDiff, Nat.reduceLeDiff, true_and, List.length_map, rdgm_get, dgm_all, file_all, blk_all, rfile_get, rsrc_get, Blk.enc, h11, h15, h20, h25]
            try simp [upd_at, h11, h15, h20, h25, List.length_map, rdgm_get, dgm_all, file_all, blk_all, rfile_get, rsrc_get, Blk.enc]
        · skip
          simp only [go_sem, Nat.reduceAdd, Nat.reduceEqDiff, Nat.reduceLeDiff, true_and, List.length_map, rdgm_get, dgm_all, file_all, blk_all, rfile_get, rsrc_get, Blk.enc, h11, h15, h20]
          try simp [upd_at, h11, h15, h20, List.length_map, rdgm_get, dgm_all, file_all, blk_all, rfile_get, rsrc_get, Blk.enc]
      · skip
        simp only [go_sem, Nat.reduceAdd, Nat.reduceEqDiff, Nat.reduceLeDiff, true_and, List.length_map, rdgm_get, dgm_all, file_all, blk_all, rfile_get, rsrc_get, Blk.enc, h11, h15]
        try simp [upd_at, h11, h15, List.length_map, rdgm_get, dgm_all, file_all, blk_all, rfile_get, rsrc_get, Blk.enc]
    · skip
      simp only [go_sem, Nat.reduceAdd, Nat.reduceEqDiff, Nat.reduceLeDiff, true_and, List.length_map, rdgm_get, dgm_all, file_all, blk_all, rfile_get, rsrc_get, Blk.enc, h11]
      try simp [upd_at, h11, List.length_map, rdgm_get, dgm_all, file_all, blk_all, rfile_get, rsrc_get, Blk.enc]
  conv => enter [5]; simp only [List.set_cons_zero, List.set_cons_succ]
  refine AW.cond rfl (fun hc31 => ?_) (fun hc31 => ?_)
  · skip
    refine AW.regl false [6] (by rfl) fun K4 hK4 => ?_ -- region 2
    simp only [go_sem, Nat.reduceAdd, Nat.reduceEqDiff, Nat.reduceLeDiff, true_and, List.length_map, rdgm_get, dgm_all, file_all, blk_all, rfile_get, rsrc_get]
    refine hK4 _ _ ?_; try clear hK4 K4
    conv => enter [5]; simp only [setL_cons, setL_nil, List.set_cons_zero, List.set_cons_succ]
    refine AW.ret ⟨.inr rfl, _, rfl, by simp, ?_⟩ -- return 1
    refine frzB ?_
    simp only [FileM.rblock]
    rw [if_pos hc31]
  · skip
    refine AW.skip ?_
    refine hK2 _ _ ?_; try clear hK2 K2
    refine AW.seq_k fun K5 hK5 => ?_
    refine AW.regl false [7] (by rfl) fun K6 hK6 => ?_ -- region 3
    simp only [go_sem, Nat.reduceAdd, Nat.reduceEqDiff, Nat.reduceLeDiff, true_and, List.length_map, rdgm_get, dgm_all, file_all, blk_all, rfile_get, rsrc_get]
    refine hK6 _ _ ?_; try clear hK6 K6
    conv => enter [5]; simp only [setL_cons, setL_nil, List.set_cons_zero, List.set_cons_succ]
    refine AW.block ?_
    -- LIVE but not told: [52, 53, 54, 57, 58, 59, 60, 61, 62, 63, 64, 67, 68, 69, 70, 71, 72, 73, 74, 77, 78, 79, 80, 81, 82, 83, 84, 85, 86, 87, 100, 101, 102, 110, 111, 112, 119, 120, 121, 124, 125, 126, 133, 134, 135, 142, 143, 144]
    refine AW.loop_wk (α := Nat) (fun j => [.any, .any, .any, (.ref σ.length 0), (.ref (σ.length + 1) 0), (.ref (σ.length + 2) 0), .any, (.val (.int .i64 (j : Nat))), .any, .any, .any, .any, .any, .any, .any, .any, .any, .any, .any, .any, .any, .any, .any, .any, .any, .any, .any, .any, .any, .any, .any, .any, .any, .any, .any, .any, .any, .any, .any, .any, .any, .any, .any, .any, .any, .any, .any, .any, .any, .any, .any, .any, .any, .any, .any, .any, .any, .any, .any, .any, .any, .any, .any, .any, .any, .any, .any, .any, .any, .any, .any, .any, .any, .any, .any, .any, .any, .any, .any, .any, .any, .any, .any, .any, .any, .any, .any, .any, .any, .any, .any, .any, .any, .any, .any, .any, .any, .any, .any, .any, .any, .any, .any, .any, .any, .any, .any, .any, .any, .any, .any, .any, .any, .any, .any, .any, .any, .any, .any, .any, .any, .any, .any, .any, .any, .any, .any, .any, .any, .any, .any, .any, .any, .any, .any, .any, .any, .any, .any, .any, .any, .any, .any, .any, .any, .any, .any, .any, .any]) (fun j => σ ++ [.cells f.enc.cells, .cells d.enc.cells, .cells b.enc.cells]) (fun j => b.src.length - j) (fun j => j ≤ b.src.length ∧ (b.src.take j).any (fun s => !f.source d s) = false) 0 ?_ ?_
    · exact ⟨⟨Nat.zero_le _, rfl⟩, by simp [Wk], rfl⟩
    · rintro j ⟨hj, hjt⟩
      refine AW.seq_k fun K7 hK7 => ?_
      refine AW.regl false [36] (by rfl) fun K8 hK8 => ?_ -- region 4
      simp only [go_sem, Nat.reduceAdd, Nat.reduceEqDiff, Nat.reduceLeDiff, true_and, List.length_map, rdgm_get, dgm_all, file_all, blk_all, rfile_get, rsrc_get, Blk.enc]
      refine hK8 _ _ ?_; try clear hK8 K8
      conv => enter [5]; simp only [setL_cons, setL_nil, List.set_cons_zero, List.set_cons_succ]
      refine AW.cond rfl (fun hc36 => ?_) (fun hc36 => ?_)
      · skip
        have hj1 : j < b.src.length := by simpa using hc36
        have hy : (b.src.map Src.enc)[j]? = some (b.src[j]).enc := by simp [hj1]
        refine AW.skip ?_
        refine hK7 _ _ ?_; try clear hK7 K7
        refine AW.seq_k fun K9 hK9 => ?_
        refine AW.block ?_
        refine AW.regdl mixed false [47] (by kernel_rfl) (by rfl) fun K10 hK10 => ?_ -- region 6
        simp only [go_sem, Nat.reduceAdd, Nat.reduceEqDiff, Nat.reduceLeDiff, true_and, List.length_map, rdgm_get, dgm_all, file_all, blk_all, rfile_get, rsrc_get, Blk.enc, at_row hy]
        refine qC.of en56 ((rsource_calls f d b.src[j]).on _).here (by rfl) ?_
        simp only [go_sem, Nat.reduceAdd, Nat.reduceEqDiff, Nat.reduceLeDiff, true_and, List.length_map, rdgm_get, dgm_all, file_all, blk_all, rfile_get, rsrc_get, Blk.enc, at_row hy]
        refine hK10 _ ?_; try clear hK10 K10
        conv => enter [5]; simp only [setL_cons, setL_nil, List.set_cons_zero, List.set_cons_succ]
        refine AW.cond rfl (fun hc47 => ?_) (fun hc47 => ?_)
        · skip
          refine AW.regl false [6] (by rfl) fun K11 hK11 => ?_ -- region 7
          simp only [go_sem, Nat.reduceAdd, Nat.reduceEqDiff, Nat.reduceLeDiff, true_and, List.length_map, rdgm_get, dgm_all, file_all, blk_all, rfile_get, rsrc_get]
          refine hK11 _ _ ?_; try clear hK11 K11
          conv => enter [5]; simp only [setL_cons, setL_nil, List.set_cons_zero, List.set_cons_succ]
          refine AW.ret ⟨.inr rfl, _, rfl, by simp, ?_⟩ -- return 2
          refine frzB ?_
          have hA : (b.src.any fun s => !f.source d s) = true := any_at hj1 hc47
          simp only [FileM.rblock]
          rw [if_neg (ne_true_of_eq_false hc31), if_pos hA]
        · skip
          refine AW.skip ?_
          refine hK9 _ _ ?_; try clear hK9 K9
          refine AW.lastl false [7] (by rfl) fun K hK => ?_ -- region 5
          simp only [go_sem, Nat.reduceAdd, Nat.reduceEqDiff, Nat.reduceLeDiff, true_and, List.length_map, rdgm_get, dgm_all, file_all, blk_all, rfile_get, rsrc_get]
          refine hK _ _ fun env' hw => ?_
          simp only [setL_cons, setL_nil, List.set_cons_zero, List.set_cons_succ] at hw
          refine ⟨j + 1, by omega, ⟨by omega, any_step hj1 hjt hc47⟩, ?_, rfl⟩
          refine hw.trans ?_
          simp [Wk, wrap_succ (show j < 1000 by omega) (by decide)]
      · skip
        have hj1' : ¬ j < b.src.length := by simpa using hc36
        have hA := any_end hj1' hjt
        refine AW.exit ?_
        refine hK5 _ _ ?_; try clear hK5 K5
        refine AW.seq_k fun K12 hK12 => ?_
        refine AW.regtf false 88 (.val (.bool ((((decide (b.kind > 1) && decide (b.n > 0)) || (b.kind == 1 && decide (b.n > 1))) || (b.kind != 7 && decide (b.sub > 0))) || (b.kind == 7 && decide (b.sub ≥ (f.ds.length : Int)))))) (by rfl) ?_ ?_ -- region 8
        · skip
          cases h50 : (decide (b.kind > 1))
          · skip
            cases h59 : (b.kind == 1)
            · skip
              cases h69 : (b.kind != 7)
              · skip
                cases h79 : (b.kind == 7)
                · skip
                  simp only [go_sem, Nat.reduceAdd, Nat.reduceEqDiff, Nat.reduceLeDiff, true_and, List.length_map, rdgm_get, dgm_all, file_all, blk_all, rfile_get, rsrc_get, Blk.enc, FileM.enc, h50, h59, h69, h79]
                  try simp [upd_at, h50, h59, h69, h79, List.length_map, rdgm_get, dgm_all, file_all, blk_all, rfile_get, rsrc_get, Blk.enc, FileM.enc]
                · skip
                  simp only [go_sem, Nat.reduceAdd, Nat.reduceEqDiff, Nat.reduceLeDiff, true_and, List.length_map, rdgm_get, dgm_all, file_all, blk_all, rfile_get, rsrc_get, Blk.enc, FileM.enc, h50, h59, h69, h79]
                  try simp [upd_at, h50, h59, h69, h79, List.length_map, rdgm_get, dgm_all, file_all, blk_all, rfile_get, rsrc_get, Blk.enc, FileM.enc]
              · skip
                cases h73 : (decide (b.sub > 0))
                · skip
                  cases h79 : (b.kind == 7)
                  · skip
                    simp only [go_sem, Nat.reduceAdd, Nat.reduceEqDiff, Nat.reduceLeDiff, true_and, List.length_map, rdgm_get, dgm_all, file_all, blk_all, rfile_get, rsrc_get, Blk.enc, FileM.enc, h50, h59, h69, h73, h79]
                    try simp [upd_at, h50, h59, h69, h73, h79, List.length_map, rdgm_get, dgm_all, file_all, blk_all, rfile_get, rsrc_get, Blk.enc, FileM.enc]
                  · skip
                    simp only [go_sem, Nat.reduceAdd, Nat.reduceEqDiff, Nat.reduceLeDiff, true_and, List.length_map, rdgm_get, dgm_all, file_all, blk_all, rfile_get, rsrc_get, Blk.enc, FileM.enc, h50, h59, h69, h73, h79]
                    try simp [upd_at, h50, h59, h69, h73, h79, List.length_map, rdgm_get, dgm_all, file_all, blk_all, rfile_get, rsrc_get, Blk.enc, FileM.enc]
                · skip
                  simp only [go_sem, Nat.reduceAdd, Nat.reduceEqDiff, Nat.reduceLeDiff, true_and, List.length_map, rdgm_get, dgm_all, file_all, blk_all, rfile_get, rsrc_get, Blk.enc, FileM.enc, h50, h59, h69, h73]
                  try simp [upd_at, h50, h59, h69, h73, List.length_map, rdgm_get, dgm_all, file_all, blk_all, rfile_get, rsrc_get, Blk.enc, FileM.enc]
            · skip
              cases h63 : (decide (b.n > 1))
              · skip
                cases h69 : (b.kind != 7)
                · skip
                  cases h79 : (b.kind == 7)
                  · skip
                    simp only [go_sem, Nat.reduceAdd, Nat.reduceEqDiff, Nat.reduceLeDiff, true_and, List.length_map, rdgm_get, dgm_all, file_all, blk_all, rfile_get, rsrc_get, Blk.enc, FileM.enc, h50, h59, h63, h69, h79]
                    try simp [upd_at, h50, h59, h63, h69, h79, List.length_map, rdgm_get, dgm_all, file_all, blk_all, rfile_get, rsrc_get, Blk.enc, FileM.enc]
                  · skip
                    simp only [go_sem, Nat.reduceAdd, Nat.reduceEqDiff, Nat.reduceLeDiff, true_and, List.length_map, rdgm_get, dgm_all, file_all, blk_all, rfile_get, rsrc_get, Blk.enc, FileM.enc, h50, h59, h63, h69, h79]
                    try simp [upd_at, h50, h59, h63, h69, h79, List.length_map, rdgm_get, dgm_all, file_all, blk_all, rfile_get, rsrc_get, Blk.enc, FileM.enc]
                · skip
                  cases h73 : (decide (b.sub > 0))
                  · skip
                    cases h79 : (b.kind == 7)
                    · skip
                      simp only [go_sem, Nat.reduceAdd, Nat.reduceEqDiff, Nat.reduceLeDiff, true_and, List.length_map, rdgm_get, dgm_all, file_all, blk_all, rfile_get, rsrc_get, Blk.enc, FileM.enc, h50, h59, h63, h69, h73, h79]
                      try simp [upd_at, h50, h59, h63, h69, h73, h79, List.length_map, rdgm_get, dgm_all, file_all, blk_all, rfile_get, rsrc_get, Blk.enc, FileM.enc]
                    · skip
                      simp only [go_sem, Nat.reduceAdd, Nat.reduceEqDiff, Nat.reduceLeDiff, true_and, List.length_map, rdgm_get, dgm_all, file_all, blk_all, rfile_get, rsrc_get, Blk.enc, FileM.enc, h50, h59, h63, h69, h73, h79]
                      try simp [upd_at, h50, h59, h63, h69, h73, h79, List.length_map, rdgm_get, dgm_all, file_all, blk_all, rfile_get, rsrc_get, Blk.enc, FileM.enc]
                  · skip
                    simp only [go_sem, Nat.reduceAdd, Nat.reduceEqDiff, Nat.reduceLeDiff, true_and, List.length_map, rdgm_get, dgm_all, file_all, blk_all, rfile_get, rsrc_get, Blk.enc, FileM.enc, h50, h59, h63, h69, h73]
                    try simp [upd_at, h50, h59, h63, h69, h73, List.length_map, rdgm_get, dgm_all, file_all, blk_all, rfile_get, rsrc_get, Blk.enc, FileM.enc]
              · skip
                simp only [go_sem, Nat.reduceAdd, Nat.reduceEqDiff, Nat.reduceLeDiff, true_and, List.length_map, rdgm_get, dgm_all, file_all, blk_all, rfile_get, rsrc_get, Blk.enc, FileM.enc, h50, h59, h63]
                try simp [upd_at, h50, h59, h63, List.length_map, rdgm_get, dgm_all, file_all, blk_all, rfile_get, rsrc_get, Blk.enc, FileM.enc]
          · skip
            cases h54 : (decide (b.n > 0))
            · skip
              cases h59 : (b.kind == 1)
              · skip
                cases h69 : (b.kind != 7)
                · skip
                  cases h79 : (b.kind == 7)
                  · skip
                    simp only [go_sem, Nat.reduceAdd, Nat.reduceEqDiff, Nat.reduceLeDiff, true_and, List.length_map, rdgm_get, dgm_all, file_all, blk_all, rfile_get, rsrc_get, Blk.enc, FileM.enc, h50, h54, h59, h69, h79]
                    try simp [upd_at, h50, h54, h59, h69, h79, List.length_map, rdgm_get, dgm_all, file_all, blk_all, rfile_get, rsrc_get, Blk.enc, FileM.enc]
                  · skip
                    simp only [go_sem, Nat.reduceAdd, Nat.reduceEqDiff, Nat.reduceLeDiff, true_and, List.length_map, rdgm_get, dgm_all, file_all, blk_all, rfile_get, rsrc_get, Blk.enc, FileM.enc, h50, h54, h59, h69, h79]
                    try simp [upd_at, h50, h54, h59, h69, h79, List.length_map, rdgm_get, dgm_all, file_all, blk_all, rfile_get, rsrc_get, Blk.enc, FileM.enc]
                · skip
                  cases h73 : (decide (b.sub > 0))
                  · skip
                    cases h79 : (b.kind == 7)
                    · skip
                      simp only [go_sem, Nat.reduceAdd, Nat.reduceEqDiff, Nat.reduceLeDiff, true_and, List.length_map, rdgm_get, dgm_all, file_all, blk_all, rfile_get, rsrc_get, Blk.enc, FileM.enc, h50, h54, h59, h69, h73, h79]
                      try simp [upd_at, h50, h54, h59, h69, h73, h79, List.length_map, rdgm_get, dgm_all, file_all, blk_all, rfile_get, rsrc_get, Blk.enc, FileM.enc]
                    · skip
                      simp only [go_sem, Nat.reduceAdd, Nat.reduceEqDiff, Nat.reduceLeDiff, true_and, List.length_map, rdgm_get, dgm_all, file_all, blk_all, rfile_get, rsrc_get, Blk.enc, FileM.enc, h50, h54, h59, h69, h73, h79]
                      try simp [upd_at, h50, h54, h59, h69, h73, h79, List.length_map, rdgm_get, dgm_all, file_all, blk_all, rfile_get, rsrc_get, Blk.enc, FileM.enc]
                  · skip
                    simp only [go_sem, Nat.reduceAdd, Nat.reduceEqDiff, Nat.reduceLeDiff, true_and, List.length_map, rdgm_get, dgm_all, file_all, blk_all, rfile_get, rsrc_get, Blk.enc, FileM.enc, h50, h54, h59, h69, h73]
                    try simp [upd_at, h50, h54, h59, h69, h73, List.length_map, rdgm_get, dgm_all, file_all, blk_all, rfile_get, rsrc_get, Blk.enc, FileM.enc]
              · skip
                cases h63 : (decide (b.n > 1))
                · skip
                  cases h69 : (b.kind != 7)
                  · skip
                    cases h79 : (b.kind == 7)
                    · skip
                      simp only [go_sem, Nat.reduceAdd, Nat.reduceEqDiff, Nat.reduceLeDiff, true_and, List.length_map, rdgm_get, dgm_all, file_all, blk_all, rfile_get, rsrc_get, Blk.enc, FileM.enc, h50, h54, h59, h63, h69, h79]
                      try simp [upd_at, h50, h54, h59, h63, h69, h79, List.length_map, rdgm_get, dgm_all, file_all, blk_all, rfile_get, rsrc_get, Blk.enc, FileM.enc]
                    · skip
                      simp only [go_sem, Nat.reduceAdd, Nat.reduceEqDiff, Nat.reduceLeDiff, true_and, List.length_map, rdgm_get, dgm_all, file_all, blk_all, rfile_get, rsrc_get, Blk.enc, FileM.enc, h50, h54, h59, h63, h69, h79]
                      try simp [upd_at, h50, h54, h59, h63, h69, h79, List.length_map, rdgm_get, dgm_all, file_all, blk_all, rfile_get, rsrc_get, Blk.enc, FileM.enc]
                  · skip
                    cases h73 : (decide (b.sub > 0))
                    · skip
                      cases h79 : (b.kind == 7)
                      · skip
                        simp only [go_sem, Nat.reduceAdd, Nat.reduceEqDiff, Nat.reduceLeDiff, true_and, List.length_map, rdgm_get, dgm_all, file_all, blk_all, rfile_get, rsrc_get, Blk.enc, FileM.enc, h50, h54, h59, h63, h69, h73, h79]
                        try simp [upd_at, h50, h54, h59, h63, h69, h73, h79, List.length_map, rdgm_get, dgm_all, file_all, blk_all, rfile_get, rsrc_get, Blk.enc, FileM.enc]
                      · skip
                        simp only [go_sem, Nat.reduceAdd, Nat.reduceEqDiff, Nat.reduceLeDiff, true_and, List.length_map, rdgm_get, dgm_all, file_all, blk_all, rfile_get, rsrc_get, Blk.enc, FileM.enc, h50, h54, h59, h63, h69, h73, h79]
                        try simp [upd_at, h50, h54, h59, h63, h69, h73, h79, List.length_map, rdgm_get, dgm_all, file_all, blk_all, rfile_get, rsrc_get, Blk.enc, FileM.enc]
                    · skip
                      simp only [go_sem, Nat.reduceAdd, Nat.reduceEqDiff, Nat.reduceLeDiff, true_and, List.length_map, rdgm_get, dgm_all, file_all, blk_all, rfile_get, rsrc_get, Blk.enc, FileM.enc, h50, h54, h59, h63, h69, h73]
                      try simp [upd_at, h50, h54, h59, h63, h69, h73, List.length_map, rdgm_get, dgm_all, file_all, blk_all, rfile_get, rsrc_get, Blk.enc, FileM.enc]
                · skip
                  simp only [go_sem, Nat.reduceAdd, Nat.reduceEqDiff, Nat.reduceLeDiff, true_and, List.length_map, rdgm_get, dgm_all, file_all, blk_all, rfile_get, rsrc_get, Blk.enc, FileM.enc, h50, h54, h59, h63]
                  try simp [upd_at, h50, h54, h59, h63, List.length_map, rdgm_get, dgm_all, file_all, blk_all, rfile_get, rsrc_get, Blk.enc, FileM.enc]
            · skip
              simp only [go_sem, Nat.reduceAdd, Nat.reduceEqDiff, Nat.reduceLeDiff, true_and, List.length_map, rdgm_get, dgm_all, file_all, blk_all, rfile_get, rsrc_get, Blk.enc, FileM.enc, h50, h54]
              try simp [upd_at, h50, h54, List.length_map, rdgm_get, dgm_all, file_all, blk_all, rfile_get, rsrc_get, Blk.enc, FileM.enc]
        conv => enter [5]; simp only [List.set_cons_zero, List.set_cons_succ]
        refine AW.cond rfl (fun hc88 => ?_) (fun hc88 => ?_)
        · skip
          refine AW.regl false [6] (by rfl) fun K14 hK14 => ?_ -- region 9
          simp only [go_sem, Nat.reduceAdd, Nat.reduceEqDiff, Nat.reduceLeDiff, true_and, List.length_map, rdgm_get, dgm_all, file_all, blk_all, rfile_get, rsrc_get]
          refine hK14 _ _ ?_; try clear hK14 K14
          conv => enter [5]; simp only [setL_cons, setL_nil, List.set_cons_zero, List.set_cons_succ]
          refine AW.ret ⟨.inr rfl, _, rfl, by simp, ?_⟩ -- return 3
          refine frzB ?_
          simp only [FileM.rblock]
          rw [if_neg (ne_true_of_eq_false hc31), if_neg (ne_true_of_eq_false hA), if_pos hc88]
        · skip
          refine AW.skip ?_
          refine hK12 _ _ ?_; try clear hK12 K12
          refine AW.regl false [8] (by rfl) fun K15 hK15 => ?_ -- region 10
          simp only [go_sem, Nat.reduceAdd, Nat.reduceEqDiff, Nat.reduceLeDiff, true_and, List.length_map, rdgm_get, dgm_all, file_all, blk_all, rfile_get, rsrc_get, Blk.enc]
          refine hK15 _ _ ?_; try clear hK15 K15
          conv => enter [5]; simp only [setL_cons, setL_nil, List.set_cons_zero, List.set_cons_succ]
          refine AW.seq_k fun K16 hK16 => ?_
          refine AW.regl false [93] (by rfl) fun K17 hK17 => ?_ -- region 11
          simp only [go_sem, Nat.reduceAdd, Nat.reduceEqDiff, Nat.reduceLeDiff, true_and, List.length_map, rdgm_get, dgm_all, file_all, blk_all, rfile_get, rsrc_get, Blk.enc]
          refine hK17 _ _ ?_; try clear hK17 K17
          conv => enter [5]; simp only [setL_cons, setL_nil, List.set_cons_zero, List.set_cons_succ]
          refine AW.block ?_
          refine AW.mid (α := Unit) (fun _ => [.any, .any, .any, (.ref σ.length 0), (.ref (σ.length + 1) 0), (.ref (σ.length + 2) 0), .any, .any, (.val (.int .i64 (b.src.length : Nat))), .any, .any, .any, .any, .any, .any, .any, .any, .any, .any, .any, .any, .any, .any, .any, .any, .any, .any, .any, .any, .any, .any, .any, .any, .any, .any, .any, .any, .any, .any, .any, .any, .any, .any, .any, .any, .any, .any, .any, .any, .any, .any, .any, .any, .any, .any, .any, .any, .any, .any, .any, .any, .any, .any, .any, .any, .any, .any, .any, .any, .any, .any, .any, .any, .any, .any, .any, .any, .any, .any, .any, .any, .any, .any, .any, .any, .any, .any, .any, .any, .any, .any, .any, .any, (.val (.int .i64 b.kind)), (.val (.bool ((b.kind == 0) || (b.kind == 1)))), .any, .any, .any, .any, .any, .any, .any, .any, .any, .any, .any, .any, .any, .any, .any, .any, .any, .any, .any, .any, .any, .any, .any, .any, .any, .any, .any, .any, .any, .any, .any, .any, .any, .any, .any, .any, .any, .any, .any, .any, .any, .any, .any, .any, .any, .any, .any, .any, .any, .any, .any, .any, .any, .any]) (fun _ => σ ++ [.cells f.enc.cells, .cells d.enc.cells, .cells b.enc.cells]) (fun _ => True) ?_ ?_
          · skip
            refine AW.regl false [94] (by rfl) fun K19 hK19 => ?_ -- region 12
            simp only [go_sem, Nat.reduceAdd, Nat.reduceEqDiff, Nat.reduceLeDiff, true_and, List.length_map, rdgm_get, dgm_all, file_all, blk_all, rfile_get, rsrc_get]
            refine hK19 _ _ ?_; try clear hK19 K19
            conv => enter [5]; simp only [setL_cons, setL_nil, List.set_cons_zero, List.set_cons_succ]
            refine AW.cond rfl (fun hc94 => ?_) (fun hc94 => ?_)
            · skip
              refine AW.skip ?_
              exact ⟨(), trivial, (by simp [Wk, hc94]), rfl⟩
            · skip
              refine AW.lastl false [94] (by rfl) fun K hK => ?_ -- region 13
              simp only [go_sem, Nat.reduceAdd, Nat.reduceEqDiff, Nat.reduceLeDiff, true_and, List.length_map, rdgm_get, dgm_all, file_all, blk_all, rfile_get, rsrc_get]
              refine hK _ _ fun env' hw => ?_
              simp only [setL_cons, setL_nil, List.set_cons_zero, List.set_cons_succ] at hw
              exact ⟨(), trivial, (hw.trans (by simp [Wk, hc94])), rfl⟩
          · skip
            intro _ _
            refine AW.cond rfl (fun hc94 => ?_) (fun hc94 => ?_)
            · skip
              refine AW.regtf false 6 (.val (.bool ((b.src.length : Int) == 0 && b.op == 0))) (by rfl) ?_ ?_ -- region 14
              · skip
                cases h98 : ((b.src.length : Int) == 0)
                · skip
                  simp only [go_sem, Nat.reduceAdd, Nat.reduceEqDiff, Nat.reduceLeDiff, true_and, List.length_map, rdgm_get, dgm_all, file_all, blk_all, rfile_get, rsrc_get, Blk.enc, h98]
                  try simp [upd_at, h98, List.length_map, rdgm_get, dgm_all, file_all, blk_all, rfile_get, rsrc_get, Blk.enc]
                · skip
                  simp only [go_sem, Nat.reduceAdd, Nat.reduceEqDiff, Nat.reduceLeDiff, true_and, List.length_map, rdgm_get, dgm_all, file_all, blk_all, rfile_get, rsrc_get, Blk.enc, h98]
                  try simp [upd_at, h98, List.length_map, rdgm_get, dgm_all, file_all, blk_all, rfile_get, rsrc_get, Blk.enc]
              conv => enter [5]; simp only [List.set_cons_zero, List.set_cons_succ]
              refine AW.ret ⟨.inr rfl, _, rfl, by simp, ?_⟩ -- return 4
              refine frzB ?_
              simp only [FileM.rblock]
              rw [if_neg (ne_true_of_eq_false hc31), if_neg (ne_true_of_eq_false hA), if_neg (ne_true_of_eq_false hc88)]
              simp only [*, Bool.true_or, Bool.or_true, Bool.or_self, if_true, if_false, Bool.false_eq_true]
            · skip
              refine AW.mid (α := Unit) (fun _ => [.any, .any, .any, (.ref σ.length 0), (.ref (σ.length + 1) 0), (.ref (σ.length + 2) 0), .any, .any, (.val (.int .i64 (b.src.length : Nat))), .any, .any, .any, .any, .any, .any, .any, .any, .any, .any, .any, .any, .any, .any, .any, .any, .any, .any, .any, .any, .any, .any, .any, .any, .any, .any, .any, .any, .any, .any, .any, .any, .any, .any, .any, .any, .any, .any, .any, .any, .any, .any, .any, .any, .any, .any, .any, .any, .any, .any, .any, .any, .any, .any, .any, .any, .any, .any, .any, .any, .any, .any, .any, .any, .any, .any, .any, .any, .any, .any, .any, .any, .any, .any, .any, .any, .any, .any, .any, .any, .any, .any, .any, .any, (.val (.int .i64 b.kind)), .any, .any, .any, .any, .any, .any, .any, .any, .any, .any, (.val (.bool ((b.kind == 2) || (b.kind == 4)))), .any, .any, .any, .any, .any, .any, .any, .any, .any, .any, .any, .any, .any, .any, .any, .any, .any, .any, .any, .any, .any, .any, .any, .any, .any, .any, .any, .any, .any, .any, .any, .any, .any, .any, .any, .any, .any, .any, .any, .any, .any, .any, .any, .any]) (fun _ => σ ++ [.cells f.enc.cells, .cells d.enc.cells, .cells b.enc.cells]) (fun _ => True) ?_ ?_
              · skip
                refine AW.regl false [104] (by rfl) fun K22 hK22 => ?_ -- region 15
                simp only [go_sem, Nat.reduceAdd, Nat.reduceEqDiff, Nat.reduceLeDiff, true_and, List.length_map, rdgm_get, dgm_all, file_all, blk_all, rfile_get, rsrc_get]
                refine hK22 _ _ ?_; try clear hK22 K22
                conv => enter [5]; simp only [setL_cons, setL_nil, List.set_cons_zero, List.set_cons_succ]
                refine AW.cond rfl (fun hc104 => ?_) (fun hc104 => ?_)
                · skip
                  refine AW.skip ?_
                  exact ⟨(), trivial, (by simp [Wk, hc104]), rfl⟩
                · skip
                  refine AW.lastl false [104] (by rfl) fun K hK => ?_ -- region 16
                  simp only [go_sem, Nat.reduceAdd, Nat.reduceEqDiff, Nat.reduceLeDiff, true_and, List.length_map, rdgm_get, dgm_all, file_all, blk_all, rfile_get, rsrc_get]
                  refine hK _ _ fun env' hw => ?_
                  simp only [setL_cons, setL_nil, List.set_cons_zero, List.set_cons_succ] at hw
                  exact ⟨(), trivial, (hw.trans (by simp [Wk, hc104])), rfl⟩
              · skip
                intro _ _
                refine AW.cond rfl (fun hc104 => ?_) (fun hc104 => ?_)
                · skip
                  refine AW.regtf false 6 (.val (.bool ((b.src.length : Int) == 1 && decide (b.op ≤ 1)))) (by rfl) ?_ ?_ -- region 17
                  · skip
                    cases h108 : ((b.src.length : Int) == 1)
                    · skip
                      simp only [go_sem, Nat.reduceAdd, Nat.reduceEqDiff, Nat.reduceLeDiff, true_and, List.length_map, rdgm_get, dgm_all, file_all, blk_all, rfile_get, rsrc_get, Blk.enc, h108]
                      try simp [upd_at, h108, List.length_map, rdgm_get, dgm_all, file_all, blk_all, rfile_get, rsrc_get, Blk.enc]
                    · skip
                      simp only [go_sem, Nat.reduceAdd, Nat.reduceEqDiff, Nat.reduceLeDiff, true_and, List.length_map, rdgm_get, dgm_all, file_all, blk_all, rfile_get, rsrc_get, Blk.enc, h108]
                      try simp [upd_at, h108, List.length_map, rdgm_get, dgm_all, file_all, blk_all, rfile_get, rsrc_get, Blk.enc]
                  conv => enter [5]; simp only [List.set_cons_zero, List.set_cons_succ]
                  refine AW.ret ⟨.inr rfl, _, rfl, by simp, ?_⟩ -- return 5
                  refine frzB ?_
                  simp only [FileM.rblock]
                  rw [if_neg (ne_true_of_eq_false hc31), if_neg (ne_true_of_eq_false hA), if_neg (ne_true_of_eq_false hc88)]
                  simp only [*, Bool.true_or, Bool.or_true, Bool.or_self, if_true, if_false, Bool.false_eq_true]
                · skip
                  refine AW.regl false [114] (by rfl) fun K24 hK24 => ?_ -- region 18
                  simp only [go_sem, Nat.reduceAdd, Nat.reduceEqDiff, Nat.reduceLeDiff, true_and, List.length_map, rdgm_get, dgm_all, file_all, blk_all, rfile_get, rsrc_get]
                  refine hK24 _ _ ?_; try clear hK24 K24
                  conv => enter [5]; simp only [setL_cons, setL_nil, List.set_cons_zero, List.set_cons_succ]
                  refine AW.cond rfl (fun hc114 => ?_) (fun hc114 => ?_)
                  · skip
                    refine AW.regtf false 6 (.val (.bool (((b.src.length : Int) == 2 && decide (b.op ≥ 1)) && decide (b.op ≤ 15)))) (by rfl) ?_ ?_ -- region 19
                    · skip
                      cases h117 : ((b.src.length : Int) == 2)
                      · skip
                        simp only [go_sem, Nat.reduceAdd, Nat.reduceEqDiff, Nat.reduceLeDiff, true_and, List.length_map, rdgm_get, dgm_all, file_all, blk_all, rfile_get, rsrc_get, Blk.enc, h117]
                        try simp [upd_at, h117, List.length_map, rdgm_get, dgm_all, file_all, blk_all, rfile_get, rsrc_get, Blk.enc]
                      · skip
                        cases h121 : (decide (b.op ≥ 1))
                        · skip
                          simp only [go_sem, Nat.reduceAdd, Nat.reduceEqDiff, Nat.reduceLeDiff, true_and, List.length_map, rdgm_get, dgm_all, file_all, blk_all, rfile_get, rsrc_get, Blk.enc, h117, h121]
                          try simp [upd_at, h117, h121, List.length_map, rdgm_get, dgm_all, file_all, blk_all, rfile_get, rsrc_get, Blk.enc]
                        · skip
                          simp only [go_sem, Nat.reduceAdd, Nat.reduceEqDiff, Nat.reduceLeDiff, true_and, List.length_map, rdgm_get, dgm_all, file_all, blk_all, rfile_get, rsrc_get, Blk.enc, h117, h121]
                          try simp [upd_at, h117, h121, List.length_map, rdgm_get, dgm_all, file_all, blk_all, rfile_get, rsrc_get, Blk.enc]
                    conv => enter [5]; simp only [List.set_cons_zero, List.set_cons_succ]
                    refine AW.ret ⟨.inr rfl, _, rfl, by simp, ?_⟩ -- return 6
                    refine frzB ?_
                    simp only [FileM.rblock]
                    rw [if_neg (ne_true_of_eq_false hc31), if_neg (ne_true_of_eq_false hA), if_neg (ne_true_of_eq_false hc88)]
                    simp only [*, Bool.true_or, Bool.or_true, Bool.or_self, if_true, if_false, Bool.false_eq_true]
                  · skip
                    refine AW.regl false [128] (by rfl) fun K26 hK26 => ?_ -- region 20
                    simp only [go_sem, Nat.reduceAdd, Nat.reduceEqDiff, Nat.reduceLeDiff, true_and, List.length_map, rdgm_get, dgm_all, file_all, blk_all, rfile_get, rsrc_get]
                    refine hK26 _ _ ?_; try clear hK26 K26
                    conv => enter [5]; simp only [setL_cons, setL_nil, List.set_cons_zero, List.set_cons_succ]
                    refine AW.cond rfl (fun hc128 => ?_) (fun hc128 => ?_)
                    · skip
                      refine AW.regtf false 6 (.val (.bool ((b.src.length : Int) == 2 && b.op == 0))) (by rfl) ?_ ?_ -- region 21
                      · skip
                        cases h131 : ((b.src.length : Int) == 2)
                        · skip
                          simp only [go_sem, Nat.reduceAdd, Nat.reduceEqDiff, Nat.reduceLeDiff, true_and, List.length_map, rdgm_get, dgm_all, file_all, blk_all, rfile_get, rsrc_get, Blk.enc, h131]
                          try simp [upd_at, h131, List.length_map, rdgm_get, dgm_all, file_all, blk_all, rfile_get, rsrc_get, Blk.enc]
                        · skip
                          simp only [go_sem, Nat.reduceAdd, Nat.reduceEqDiff, Nat.reduceLeDiff, true_and, List.length_map, rdgm_get, dgm_all, file_all, blk_all, rfile_get, rsrc_get, Blk.enc, h131]
                          try simp [upd_at, h131, List.length_map, rdgm_get, dgm_all, file_all, blk_all, rfile_get, rsrc_get, Blk.enc]
                      conv => enter [5]; simp only [List.set_cons_zero, List.set_cons_succ]
                      refine AW.ret ⟨.inr rfl, _, rfl, by simp, ?_⟩ -- return 7
                      refine frzB ?_
                      simp only [FileM.rblock]
                      rw [if_neg (ne_true_of_eq_false hc31), if_neg (ne_true_of_eq_false hA), if_neg (ne_true_of_eq_false hc88)]
                      simp only [*, Bool.true_or, Bool.or_true, Bool.or_self, if_true, if_false, Bool.false_eq_true]
                    · skip
                      refine AW.regl false [137] (by rfl) fun K28 hK28 => ?_ -- region 22
                      simp only [go_sem, Nat.reduceAdd, Nat.reduceEqDiff, Nat.reduceLeDiff, true_and, List.length_map, rdgm_get, dgm_all, file_all, blk_all, rfile_get, rsrc_get]
                      refine hK28 _ _ ?_; try clear hK28 K28
                      conv => enter [5]; simp only [setL_cons, setL_nil, List.set_cons_zero, List.set_cons_succ]
                      refine AW.cond rfl (fun hc137 => ?_) (fun hc137 => ?_)
                      · skip
                        refine AW.regtf false 6 (.val (.bool ((b.src.length : Int) == 3 && b.op == 0))) (by rfl) ?_ ?_ -- region 23
                        · skip
                          cases h140 : ((b.src.length : Int) == 3)
                          · skip
                            simp only [go_sem, Nat.reduceAdd, Nat.reduceEqDiff, Nat.reduceLeDiff, true_and, List.length_map, rdgm_get, dgm_all, file_all, blk_all, rfile_get, rsrc_get, Blk.enc, h140]
                            try simp [upd_at, h140, List.length_map, rdgm_get, dgm_all, file_all, blk_all, rfile_get, rsrc_get, Blk.enc]
                          · skip
                            simp only [go_sem, Nat.reduceAdd, Nat.reduceEqDiff, Nat.reduceLeDiff, true_and, List.length_map, rdgm_get, dgm_all, file_all, blk_all, rfile_get, rsrc_get, Blk.enc, h140]
                            try simp [upd_at, h140, List.length_map, rdgm_get, dgm_all, file_all, blk_all, rfile_get, rsrc_get, Blk.enc]
                        conv => enter [5]; simp only [List.set_cons_zero, List.set_cons_succ]
                        refine AW.ret ⟨.inr rfl, _, rfl, by simp, ?_⟩ -- return 8
                        refine frzB ?_
                        simp only [FileM.rblock]
                        rw [if_neg (ne_true_of_eq_false hc31), if_neg (ne_true_of_eq_false hA), if_neg (ne_true_of_eq_false hc88)]
                        simp only [*, Bool.true_or, Bool.or_true, Bool.or_self, if_true, if_false, Bool.false_eq_true]
                      · skip
                        refine AW.skip ?_
                        refine hK16 _ _ ?_; try clear hK16 K16
                        refine AW.regl false [6] (by rfl) fun K30 hK30 => ?_ -- region 24
                        simp only [go_sem, Nat.reduceAdd, Nat.reduceEqDiff, Nat.reduceLeDiff, true_and, List.length_map, rdgm_get, dgm_all, file_all, blk_all, rfile_get, rsrc_get, Blk.enc]
                        refine hK30 _ _ ?_; try clear hK30 K30
                        conv => enter [5]; simp only [setL_cons, setL_nil, List.set_cons_zero, List.set_cons_succ]
                        refine AW.ret ⟨.inr rfl, _, rfl, by simp, ?_⟩ -- return 9
                        refine frzB ?_
                        simp only [FileM.rblock]
                        rw [if_neg (ne_true_of_eq_false hc31), if_neg (ne_true_of_eq_false hA), if_neg (ne_true_of_eq_false hc88)]
                        simp only [*, Bool.true_or, Bool.or_true, Bool.or_self, if_true, if_false, Bool.false_eq_true]
end Go.Proofs.Tryd
