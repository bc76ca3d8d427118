import Derived.Test.YtnjehllmlheagaaDoorPkFkA
import Derived.Test.YtnjehllmlheagaaDoorFkEvMove
import Derived.Test.YtnjehllmlheagaaDoorFkEvSlNil
import Derived.Test.YtnjehllmlheagaaDoorFkEvAny
/-! What the document says of blocks. -/
namespace Go.Proofs.Tryd
set_option linter.unusedSimpArgs false
set_option linter.unusedVariables false
open Go Go.Proofs.Ev
variable {Γ : List (Nat × List AV)}
attribute [local go_sem] true_and List.length_map
set_option maxRecDepth 100000 in
theorem rresults_calls (f : FileM) (b : Blk) : APure prog Γ 37 [f.enc, b.enc] (.val (.int .i64 (f.results b))) := by
 refine APure.of func37 rfl fun σ => ?_
 simp only [ntmps37, List.length_cons, List.length_nil, Nat.reduceAdd, Nat.reduceSub, List.replicate_succ, List.replicate_zero, List.cons_append, List.nil_append]
 obtain ⟨kind, op, sub, bn, bx, by', nl, src⟩ := b
 obtain ⟨fnl, ds⟩ := f
 refine AW.regl false [2, 3, 4] (by rfl) fun K1 hK1 => ?_
 simp only [go_sem, Nat.reduceAdd, Nat.reduceEqDiff, Nat.reduceLeDiff, FileM.enc, Blk.enc]
 refine hK1 _ _ ?_
 conv => enter [5]; simp only [sl1, sl0, sz0, sz1]
 refine AW.seq_k fun K2 hK2 => ?_
 refine AW.regtf false 12 (.val (.bool (decide (kind < 0) || decide (kind > 7)))) (by rfl) ?_ ?_
 ·skip
  cases h7 : (decide (kind < 0))
  ·skip
   simp only [go_sem, Nat.reduceAdd, Nat.reduceEqDiff, Nat.reduceLeDiff, FileM.enc, Blk.enc, h7]
   try simp [upd_at, h7, FileM.enc, Blk.enc, List.length_map]
  ·skip
   simp only [go_sem, Nat.reduceAdd, Nat.reduceEqDiff, Nat.reduceLeDiff, FileM.enc, Blk.enc, h7]
   try simp [upd_at, h7, FileM.enc, Blk.enc, List.length_map]
 conv => enter [5]; simp only [sz0, sz1]
 refine AW.cond rfl (fun hc12 => ?_) (fun hc12 => ?_)
 ·skip
  refine AW.regl false [4] (by rfl) fun K4 hK4 => ?_
  simp only [go_sem, Nat.reduceAdd, Nat.reduceEqDiff, Nat.reduceLeDiff, FileM.enc, Blk.enc]
  refine hK4 _ _ ?_
  conv => enter [5]; simp only [sl1, sl0, sz0, sz1]
  refine AW.ret ⟨.inr rfl, _, rfl, by simp, ?_⟩
  simp only [FileM.results]
  rw [if_pos hc12]
  exact .keep rfl
 ·skip
  refine AW.skip ?_
  refine hK2 _ _ ?_
  refine AW.seq_k fun K5 hK5 => ?_
  refine AW.regl false [15] (by rfl) fun K6 hK6 => ?_
  simp only [go_sem, Nat.reduceAdd, Nat.reduceEqDiff, Nat.reduceLeDiff, FileM.enc, Blk.enc]
  refine hK6 _ _ ?_
  conv => enter [5]; simp only [sl1, sl0, sz0, sz1]
  refine AW.cond rfl (fun hc15 => ?_) (fun hc15 => ?_)
  ·skip
   refine AW.regl false [4] (by rfl) fun K7 hK7 => ?_
   simp only [go_sem, Nat.reduceAdd, Nat.reduceEqDiff, Nat.reduceLeDiff, FileM.enc, Blk.enc]
   refine hK7 _ _ ?_
   conv => enter [5]; simp only [sl1, sl0, sz0, sz1]
   refine AW.ret ⟨.inr rfl, _, rfl, by simp, ?_⟩
   simp only [FileM.results]
   rw [if_neg (ne_true_of_eq_false hc12), if_pos hc15]
   exact .keep rfl
  ·skip
   refine AW.skip ?_
   refine hK5 _ _ ?_
   refine AW.seq_k fun K8 hK8 => ?_
   refine AW.regtf false 26 (.val (.bool (decide (sub < 0) || decide (sub ≥ (ds.length : Int))))) (by rfl) ?_ ?_
   ·skip
    cases h18 : (decide (sub < 0))
    ·skip
     simp only [go_sem, Nat.reduceAdd, Nat.reduceEqDiff, Nat.reduceLeDiff, FileM.enc, Blk.enc, h18]
     try simp [upd_at, h18, FileM.enc, Blk.enc, List.length_map]
    ·skip
     simp only [go_sem, Nat.reduceAdd, Nat.reduceEqDiff, Nat.reduceLeDiff, FileM.enc, Blk.enc, h18]
     try simp [upd_at, h18, FileM.enc, Blk.enc, List.length_map]
   conv => enter [5]; simp only [sz0, sz1]
   refine AW.cond rfl (fun hc26 => ?_) (fun hc26 => ?_)
   ·skip
    refine AW.regl false [4] (by rfl) fun K10 hK10 => ?_
    simp only [go_sem, Nat.reduceAdd, Nat.reduceEqDiff, Nat.reduceLeDiff, FileM.enc, Blk.enc]
    refine hK10 _ _ ?_
    conv => enter [5]; simp only [sl1, sl0, sz0, sz1]
    refine AW.ret ⟨.inr rfl, _, rfl, by simp, ?_⟩
    simp only [FileM.results]
    rw [if_neg (ne_true_of_eq_false hc12), if_neg (ne_true_of_eq_false hc15), if_pos hc26]
    exact .keep rfl
   ·skip
    have h0 : ¬ sub < 0 ∧ sub < ds.length := by simpa using hc26
    obtain ⟨j, rfl⟩ := Int.eq_ofNat_of_zero_le (by omega : 0 ≤ sub)
    have hj : j < ds.length := by omega
    have hx : (ds.map Dgm.enc)[j]? = some (ds[j]).enc := by simp [hj]
    refine AW.skip ?_
    refine hK8 _ _ ?_
    refine AW.regl false [4] (by rfl) fun K11 hK11 => ?_
    simp only [go_sem, Nat.reduceAdd, Nat.reduceEqDiff, Nat.reduceLeDiff, FileM.enc, Blk.enc, at_row hx, Dgm.enc]
    refine hK11 _ _ ?_
    conv => enter [5]; simp only [sl1, sl0, sz0, sz1]
    refine AW.ret ⟨.inr rfl, _, rfl, by simp, ?_⟩
    simp only [FileM.results]
    rw [if_neg (ne_true_of_eq_false hc12), if_neg (ne_true_of_eq_false hc15), if_neg (ne_true_of_eq_false hc26)]
    simp only [Int.toNat_natCast, List.getElem?_eq_getElem hj]
    exact .keep rfl

set_option maxRecDepth 100000 in
theorem rsource_calls (f : FileM) (d : Dgm) (s : Src) : APure prog Γ 57 [f.enc, d.enc, s.enc] (.val (.bool (f.source d s))) := by
 refine APure.of func57 rfl fun σ => ?_
 simp only [ntmps57, List.length_cons, List.length_nil, Nat.reduceAdd, Nat.reduceSub, List.replicate_succ, List.replicate_zero, List.cons_append, List.nil_append]
 obtain ⟨block, port⟩ := s
 obtain ⟨name, nlI, ins, nlO, outs, nlB, blocks⟩ := d
 refine AW.regl false [3, 4, 5, 6] (by rfl) fun K1 hK1 => ?_
 simp only [go_sem, Nat.reduceAdd, Nat.reduceEqDiff, Nat.reduceLeDiff, FileM.enc, Dgm.enc, Src.enc]
 refine hK1 _ _ ?_
 conv => enter [5]; simp only [sl1, sl0, sz0, sz1]
 refine AW.seq_k fun K2 hK2 => ?_
 refine AW.regtf false 22 (.val (.bool ((decide (port < 0) || decide (block < -1)) || decide (block ≥ (blocks.length : Int))))) (by rfl) ?_ ?_
 ·skip
  cases h9 : (decide (port < 0))
  ·skip
   cases h13 : (decide (block < -1))
   ·skip
    simp only [go_sem, Nat.reduceAdd, Nat.reduceEqDiff, Nat.reduceLeDiff, FileM.enc, Dgm.enc, Src.enc, h9, h13]
    try simp [upd_at, h9, h13, FileM.enc, Dgm.enc, Src.enc, List.length_map]
   ·skip
    simp only [go_sem, Nat.reduceAdd, Nat.reduceEqDiff, Nat.reduceLeDiff, FileM.enc, Dgm.enc, Src.enc, h9, h13]
    try simp [upd_at, h9, h13, FileM.enc, Dgm.enc, Src.enc, List.length_map]
  ·skip
   simp only [go_sem, Nat.reduceAdd, Nat.reduceEqDiff, Nat.reduceLeDiff, FileM.enc, Dgm.enc, Src.enc, h9]
   try simp [upd_at, h9, FileM.enc, Dgm.enc, Src.enc, List.length_map]
 conv => enter [5]; simp only [sz0, sz1]
 refine AW.cond rfl (fun hc22 => ?_) (fun hc22 => ?_)
 ·skip
  refine AW.regl false [6] (by rfl) fun K4 hK4 => ?_
  simp only [go_sem, Nat.reduceAdd, Nat.reduceEqDiff, Nat.reduceLeDiff, FileM.enc, Dgm.enc, Src.enc]
  refine hK4 _ _ ?_
  conv => enter [5]; simp only [sl1, sl0, sz0, sz1]
  refine AW.ret ⟨.inr rfl, _, rfl, by simp, ?_⟩
  refine frzB ?_
  simp only [FileM.source]
  simp only [Bool.or_eq_true, decide_eq_true_eq] at hc22
  by_cases h1 : block = -1
  ·rw [h1]
   rw [h1] at hc22
   have : ¬ port ≥ 0 := by omega
   simp [this]
  ·rw [if_pos (by simp [h1])]
   by_cases h2 : (decide (block < 0) || decide (block ≥ (blocks.length : Int))) = true
   ·rw [if_pos h2]
   ·rw [if_neg h2]
    have h3 : ¬ block < 0 ∧ block < blocks.length := by simpa using h2
    have : ¬ port ≥ 0 := by omega
    split
    ·simp [this]
    ·rfl
 ·skip
  refine AW.skip ?_
  refine hK2 _ _ ?_
  refine AW.seq_k fun K5 hK5 => ?_
  refine AW.regl false [25] (by rfl) fun K6 hK6 => ?_
  simp only [go_sem, Nat.reduceAdd, Nat.reduceEqDiff, Nat.reduceLeDiff, FileM.enc, Dgm.enc, Src.enc]
  refine hK6 _ _ ?_
  conv => enter [5]; simp only [sl1, sl0, sz0, sz1]
  refine AW.cond rfl (fun hc25 => ?_) (fun hc25 => ?_)
  ·skip
   refine AW.regl false [6] (by rfl) fun K7 hK7 => ?_
   simp only [go_sem, Nat.reduceAdd, Nat.reduceEqDiff, Nat.reduceLeDiff, FileM.enc, Dgm.enc, Src.enc]
   refine hK7 _ _ ?_
   conv => enter [5]; simp only [sl1, sl0, sz0, sz1]
   refine AW.ret ⟨.inr rfl, _, rfl, by simp, ?_⟩
   refine frzB ?_
   have h0 : ¬ port < 0 ∧ ¬ block < -1 ∧ block < blocks.length := by simpa [and_assoc] using hc22
   simp only [FileM.source]
   have h1 : block = -1 := by simpa using hc25
   rw [h1]
   have : port ≥ 0 := by omega
   simp [this]
  ·skip
   have h0 : ¬ port < 0 ∧ ¬ block < -1 ∧ block < blocks.length := by simpa [and_assoc] using hc22
   have h1 : block ≠ -1 := by simpa using hc25
   obtain ⟨j, rfl⟩ := Int.eq_ofNat_of_zero_le (by omega : 0 ≤ block)
   have hj : j < blocks.length := by omega
   have hx : (blocks.map Blk.enc)[j]? = some (blocks[j]).enc := by simp [hj]
   refine AW.skip ?_
   refine hK5 _ _ ?_
   refine AW.regdl mixed false [6] (by kernel_rfl) (by rfl) fun K8 hK8 => ?_
   simp only [go_sem, Nat.reduceAdd, Nat.reduceEqDiff, Nat.reduceLeDiff, FileM.enc, Dgm.enc, Src.enc, at_row hx, rblk_get]
   refine qC.of en37 ((rresults_calls f blocks[j]).on _).here (by rfl) ?_
   simp only [go_sem, Nat.reduceAdd, Nat.reduceEqDiff, Nat.reduceLeDiff, FileM.enc, Dgm.enc, Src.enc, at_row hx, rblk_get]
   refine hK8 _ ?_
   conv => enter [5]; simp only [sl1, sl0, sz0, sz1]
   refine AW.ret ⟨.inr rfl, _, rfl, by simp, ?_⟩
   refine frzB ?_
   simp only [FileM.source]
   rw [if_pos (by simp only [bne_iff_ne]; exact h1), if_neg (by simp only [Bool.or_eq_true, decide_eq_true_eq]; omega)]
   simp only [Int.toNat_natCast, List.getElem?_eq_getElem hj]
   have : (port ≥ 0) := by omega
   simp [this]

set_option maxRecDepth 100000 in
set_option maxHeartbeats 1000000 in
theorem rblock_calls (f : FileM) (d : Dgm) (b : Blk) (hb : b.src.length ≤ 40) : APure prog Γ 58 [f.enc, d.enc, b.enc] (.val (.bool (f.rblock d b))) := by
 refine APure.of func58 rfl fun σ => ?_
 simp only [ntmps58, List.length_cons, List.length_nil, Nat.reduceAdd, Nat.reduceSub, List.replicate_succ, List.replicate_zero, List.cons_append, List.nil_append]
 refine AW.regl false [3, 4, 5, 6] (by rfl) fun K1 hK1 => ?_
 simp only [go_sem, Nat.reduceAdd, Nat.reduceEqDiff, Nat.reduceLeDiff, rdgm_get, dgm_all, file_all, blk_all, rfile_get, rsrc_get]
 refine hK1 _ _ ?_
 conv => enter [5]; simp only [sl1, sl0, sz0, sz1]
 refine AW.seq_k fun K2 hK2 => ?_
 refine AW.regtf false 31 (.val (.bool ((((decide (b.kind < 0) || decide (b.kind > 7)) || decide (b.n < 0)) || decide (b.op < 0)) || decide (b.sub < 0)))) (by rfl) ?_ ?_
 ·skip
  cases h11 : (decide (b.kind < 0))
  ·skip
   cases h15 : (decide (b.kind > 7))
   ·skip
    cases h20 : (decide (b.n < 0))
    ·skip
     cases h25 : (decide (b.op < 0))
     ·skip
      simp only [go_sem, Nat.reduceAdd, Nat.reduceEqDiff, Nat.reduceLeDiff, rdgm_get, dgm_all, file_all, blk_all, rfile_get, rsrc_get, Blk.enc, h11, h15, h20, h25]
      try simp [upd_at, h11, h15, h20, h25, List.length_map, rdgm_get, dgm_all, file_all, blk_all, rfile_get, rsrc_get, Blk.enc]
     ·skip
      simp only [go_sem, Nat.reduceAdd, Nat.reduceEqDiff, Nat.reduceLeDiff, rdgm_get, dgm_all, file_all, blk_all, rfile_get, rsrc_get, Blk.enc, h11, h15, h20, h25]
      try simp [upd_at, h11, h15, h20, h25, List.length_map, rdgm_get, dgm_all, file_all, blk_all, rfile_get, rsrc_get, Blk.enc]
    ·skip
     simp only [go_sem, Nat.reduceAdd, Nat.reduceEqDiff, Nat.reduceLeDiff, rdgm_get, dgm_all, file_all, blk_all, rfile_get, rsrc_get, Blk.enc, h11, h15, h20]
     try simp [upd_at, h11, h15, h20, List.length_map, rdgm_get, dgm_all, file_all, blk_all, rfile_get, rsrc_get, Blk.enc]
   ·skip
    simp only [go_sem, Nat.reduceAdd, Nat.reduceEqDiff, Nat.reduceLeDiff, rdgm_get, dgm_all, file_all, blk_all, rfile_get, rsrc_get, Blk.enc, h11, h15]
    try simp [upd_at, h11, h15, List.length_map, rdgm_get, dgm_all, file_all, blk_all, rfile_get, rsrc_get, Blk.enc]
  ·skip
   simp only [go_sem, Nat.reduceAdd, Nat.reduceEqDiff, Nat.reduceLeDiff, rdgm_get, dgm_all, file_all, blk_all, rfile_get, rsrc_get, Blk.enc, h11]
   try simp [upd_at, h11, List.length_map, rdgm_get, dgm_all, file_all, blk_all, rfile_get, rsrc_get, Blk.enc]
 conv => enter [5]; simp only [sz0, sz1]
 refine AW.cond rfl (fun hc31 => ?_) (fun hc31 => ?_)
 ·skip
  refine AW.regl false [6] (by rfl) fun K4 hK4 => ?_
  simp only [go_sem, Nat.reduceAdd, Nat.reduceEqDiff, Nat.reduceLeDiff, rdgm_get, dgm_all, file_all, blk_all, rfile_get, rsrc_get]
  refine hK4 _ _ ?_
  conv => enter [5]; simp only [sl1, sl0, sz0, sz1]
  refine AW.ret ⟨.inr rfl, _, rfl, by simp, ?_⟩
  refine frzB ?_
  simp only [FileM.rblock]
  rw [if_pos hc31]
 ·skip
  refine AW.skip ?_
  refine hK2 _ _ ?_
  refine AW.seq_k fun K5 hK5 => ?_
  refine AW.regl false [7] (by rfl) fun K6 hK6 => ?_
  simp only [go_sem, Nat.reduceAdd, Nat.reduceEqDiff, Nat.reduceLeDiff, rdgm_get, dgm_all, file_all, blk_all, rfile_get, rsrc_get]
  refine hK6 _ _ ?_
  conv => enter [5]; simp only [sl1, sl0, sz0, sz1]
  refine AW.block ?_
  -- LIVE but not told: [52, 53, 54, 57, 58, 59, 60, 61, 62, 63, 64, 67, 68, 69, 70, 71, 72, 73, 74, 77, 78, 79, 80, 81, 82, 83, 84, 85, 86, 87, 100, 101, 102, 110, 111, 112, 119, 120, 121, 124, 125, 126, 133, 134, 135, 142, 143, 144]
  refine AW.loop_wk (α := Nat) (fun j => [.any, .any, .any, (.ref σ.length 0), (.ref (σ.length + 1) 0), (.ref (σ.length + 2) 0), .any, (.val (.int .i64 (j : Nat))), .any, .any, .any, .any, .any, .any, .any, .any, .any, .any, .any, .any, .any, .any, .any, .any, .any, .any, .any, .any, .any, .any, .any, .any, .any, .any, .any, .any, .any, .any, .any, .any, .any, .any, .any, .any, .any, .any, .any, .any, .any, .any, .any, .any, .any, .any, .any, .any, .any, .any, .any, .any, .any, .any, .any, .any, .any, .any, .any, .any, .any, .any, .any, .any, .any, .any, .any, .any, .any, .any, .any, .any, .any, .any, .any, .any, .any, .any, .any, .any, .any, .any, .any, .any, .any, .any, .any, .any, .any, .any, .any, .any, .any, .any, .any, .any, .any, .any, .any, .any, .any, .any, .any, .any, .any, .any, .any, .any, .any, .any, .any, .any, .any, .any, .any, .any, .any, .any, .any, .any, .any, .any, .any, .any, .any, .any, .any, .any, .any, .any, .any, .any, .any, .any, .any, .any, .any, .any, .any, .any, .any]) (fun j => σ ++ [.cells f.enc.cells, .cells d.enc.cells, .cells b.enc.cells]) (fun j => b.src.length - j) (fun j => j ≤ b.src.length ∧ (b.src.take j).any (fun s => !f.source d s) = false) 0 ?_ ?_
  ·exact ⟨⟨Nat.zero_le _, rfl⟩, by simp [Wk], rfl⟩
  ·rintro j ⟨hj, hjt⟩
   refine AW.seq_k fun K7 hK7 => ?_
   refine AW.regl false [36] (by rfl) fun K8 hK8 => ?_
   simp only [go_sem, Nat.reduceAdd, Nat.reduceEqDiff, Nat.reduceLeDiff, rdgm_get, dgm_all, file_all, blk_all, rfile_get, rsrc_get, Blk.enc]
   refine hK8 _ _ ?_
   conv => enter [5]; simp only [sl1, sl0, sz0, sz1]
   refine AW.cond rfl (fun hc36 => ?_) (fun hc36 => ?_)
   ·skip
    have hj1 : j < b.src.length := by simpa using hc36
    have hy : (b.src.map Src.enc)[j]? = some (b.src[j]).enc := by simp [hj1]
    refine AW.skip ?_
    refine hK7 _ _ ?_
    refine AW.seq_k fun K9 hK9 => ?_
    refine AW.block ?_
    refine AW.regdl mixed false [47] (by kernel_rfl) (by rfl) fun K10 hK10 => ?_
    simp only [go_sem, Nat.reduceAdd, Nat.reduceEqDiff, Nat.reduceLeDiff, rdgm_get, dgm_all, file_all, blk_all, rfile_get, rsrc_get, Blk.enc, at_row hy]
    refine qC.of en57 ((rsource_calls f d b.src[j]).on _).here (by rfl) ?_
    simp only [go_sem, Nat.reduceAdd, Nat.reduceEqDiff, Nat.reduceLeDiff, rdgm_get, dgm_all, file_all, blk_all, rfile_get, rsrc_get, Blk.enc, at_row hy]
    refine hK10 _ ?_
    conv => enter [5]; simp only [sl1, sl0, sz0, sz1]
    refine AW.cond rfl (fun hc47 => ?_) (fun hc47 => ?_)
    ·skip
     refine AW.regl false [6] (by rfl) fun K11 hK11 => ?_
     simp only [go_sem, Nat.reduceAdd, Nat.reduceEqDiff, Nat.reduceLeDiff, rdgm_get, dgm_all, file_all, blk_all, rfile_get, rsrc_get]
     refine hK11 _ _ ?_
     conv => enter [5]; simp only [sl1, sl0, sz0, sz1]
     refine AW.ret ⟨.inr rfl, _, rfl, by simp, ?_⟩
     refine frzB ?_
     have hA : (b.src.any fun s => !f.source d s) = true := any_at hj1 hc47
     simp only [FileM.rblock]
     rw [if_neg (ne_true_of_eq_false hc31), if_pos hA]
    ·skip
     refine AW.skip ?_
     refine hK9 _ _ ?_
     refine AW.lastl false [7] (by rfl) fun K hK => ?_
     simp only [go_sem, Nat.reduceAdd, Nat.reduceEqDiff, Nat.reduceLeDiff, rdgm_get, dgm_all, file_all, blk_all, rfile_get, rsrc_get]
     refine hK _ _ fun env' hw => ?_
     simp only [setL_cons, setL_nil, List.set_cons_zero, List.set_cons_succ] at hw
     refine ⟨j + 1, by omega, ⟨by omega, any_step hj1 hjt hc47⟩, ?_, rfl⟩
     refine hw.trans ?_
     simp [Wk, wrap_succ (show j < 1000 by omega) (by decide)]
   ·skip
    have hj1' : ¬ j < b.src.length := by simpa using hc36
    have hA := any_end hj1' hjt
    refine AW.exit ?_
    refine hK5 _ _ ?_
    refine AW.seq_k fun K12 hK12 => ?_
    refine AW.regtf false 88 (.val (.bool ((((decide (b.kind > 1) && decide (b.n > 0)) || (b.kind == 1 && decide (b.n > 1))) || (b.kind != 7 && decide (b.sub > 0))) || (b.kind == 7 && decide (b.sub ≥ (f.ds.length : Int)))))) (by rfl) ?_ ?_
    ·skip
     cases h50 : (decide (b.kind > 1))
     ·skip
      cases h59 : (b.kind == 1)
      ·skip
       cases h69 : (b.kind != 7)
       ·skip
        cases h79 : (b.kind == 7)
        ·skip
         simp only [go_sem, Nat.reduceAdd, Nat.reduceEqDiff, Nat.reduceLeDiff, rdgm_get, dgm_all, file_all, blk_all, rfile_get, rsrc_get, Blk.enc, FileM.enc, h50, h59, h69, h79]
         try simp [upd_at, h50, h59, h69, h79, List.length_map, rdgm_get, dgm_all, file_all, blk_all, rfile_get, rsrc_get, Blk.enc, FileM.enc]
        ·skip
         simp only [go_sem, Nat.reduceAdd, Nat.reduceEqDiff, Nat.reduceLeDiff, rdgm_get, dgm_all, file_all, blk_all, rfile_get, rsrc_get, Blk.enc, FileM.enc, h50, h59, h69, h79]
         try simp [upd_at, h50, h59, h69, h79, List.length_map, rdgm_get, dgm_all, file_all, blk_all, rfile_get, rsrc_get, Blk.enc, FileM.enc]
       ·skip
        cases h73 : (decide (b.sub > 0))
        ·skip
         cases h79 : (b.kind == 7)
         ·skip
          simp only [go_sem, Nat.reduceAdd, Nat.reduceEqDiff, Nat.reduceLeDiff, rdgm_get, dgm_all, file_all, blk_all, rfile_get, rsrc_get, Blk.enc, FileM.enc, h50, h59, h69, h73, h79]
          try simp [upd_at, h50, h59, h69, h73, h79, List.length_map, rdgm_get, dgm_all, file_all, blk_all, rfile_get, rsrc_get, Blk.enc, FileM.enc]
         ·skip
          simp only [go_sem, Nat.reduceAdd, Nat.reduceEqDiff, Nat.reduceLeDiff, rdgm_get, dgm_all, file_all, blk_all, rfile_get, rsrc_get, Blk.enc, FileM.enc, h50, h59, h69, h73, h79]
          try simp [upd_at, h50, h59, h69, h73, h79, List.length_map, rdgm_get, dgm_all, file_all, blk_all, rfile_get, rsrc_get, Blk.enc, FileM.enc]
        ·skip
         simp only [go_sem, Nat.reduceAdd, Nat.reduceEqDiff, Nat.reduceLeDiff, rdgm_get, dgm_all, file_all, blk_all, rfile_get, rsrc_get, Blk.enc, FileM.enc, h50, h59, h69, h73]
         try simp [upd_at, h50, h59, h69, h73, List.length_map, rdgm_get, dgm_all, file_all, blk_all, rfile_get, rsrc_get, Blk.enc, FileM.enc]
      ·skip
       cases h63 : (decide (b.n > 1))
       ·skip
        cases h69 : (b.kind != 7)
        ·skip
         cases h79 : (b.kind == 7)
         ·skip
          simp only [go_sem, Nat.reduceAdd, Nat.reduceEqDiff, Nat.reduceLeDiff, rdgm_get, dgm_all, file_all, blk_all, rfile_get, rsrc_get, Blk.enc, FileM.enc, h50, h59, h63, h69, h79]
          try simp [upd_at, h50, h59, h63, h69, h79, List.length_map, rdgm_get, dgm_all, file_all, blk_all, rfile_get, rsrc_get, Blk.enc, FileM.enc]
         ·skip
          simp only [go_sem, Nat.reduceAdd, Nat.reduceEqDiff, Nat.reduceLeDiff, rdgm_get, dgm_all, file_all, blk_all, rfile_get, rsrc_get, Blk.enc, FileM.enc, h50, h59, h63, h69, h79]
          try simp [upd_at, h50, h59, h63, h69, h79, List.length_map, rdgm_get, dgm_all, file_all, blk_all, rfile_get, rsrc_get, Blk.enc, FileM.enc]
        ·skip
         cases h73 : (decide (b.sub > 0))
         ·skip
          cases h79 : (b.kind == 7)
          ·skip
           simp only [go_sem, Nat.reduceAdd, Nat.reduceEqDiff, Nat.reduceLeDiff, rdgm_get, dgm_all, file_all, blk_all, rfile_get, rsrc_get, Blk.enc, FileM.enc, h50, h59, h63, h69, h73, h79]
           try simp [upd_at, h50, h59, h63, h69, h73, h79, List.length_map, rdgm_get, dgm_all, file_all, blk_all, rfile_get, rsrc_get, Blk.enc, FileM.enc]
          ·skip
           simp only [go_sem, Nat.reduceAdd, Nat.reduceEqDiff, Nat.reduceLeDiff, rdgm_get, dgm_all, file_all, blk_all, rfile_get, rsrc_get, Blk.enc, FileM.enc, h50, h59, h63, h69, h73, h79]
           try simp [upd_at, h50, h59, h63, h69, h73, h79, List.length_map, rdgm_get, dgm_all, file_all, blk_all, rfile_get, rsrc_get, Blk.enc, FileM.enc]
         ·skip
          simp only [go_sem, Nat.reduceAdd, Nat.reduceEqDiff, Nat.reduceLeDiff, rdgm_get, dgm_all, file_all, blk_all, rfile_get, rsrc_get, Blk.enc, FileM.enc, h50, h59, h63, h69, h73]
          try simp [upd_at, h50, h59, h63, h69, h73, List.length_map, rdgm_get, dgm_all, file_all, blk_all, rfile_get, rsrc_get, Blk.enc, FileM.enc]
       ·skip
        simp only [go_sem, Nat.reduceAdd, Nat.reduceEqDiff, Nat.reduceLeDiff, rdgm_get, dgm_all, file_all, blk_all, rfile_get, rsrc_get, Blk.enc, FileM.enc, h50, h59, h63]
        try simp [upd_at, h50, h59, h63, List.length_map, rdgm_get, dgm_all, file_all, blk_all, rfile_get, rsrc_get, Blk.enc, FileM.enc]
     ·skip
      cases h54 : (decide (b.n > 0))
      ·skip
       cases h59 : (b.kind == 1)
       ·skip
        cases h69 : (b.kind != 7)
        ·skip
         cases h79 : (b.kind == 7)
         ·skip
          simp only [go_sem, Nat.reduceAdd, Nat.reduceEqDiff, Nat.reduceLeDiff, rdgm_get, dgm_all, file_all, blk_all, rfile_get, rsrc_get, Blk.enc, FileM.enc, h50, h54, h59, h69, h79]
          try simp [upd_at, h50, h54, h59, h69, h79, List.length_map, rdgm_get, dgm_all, file_all, blk_all, rfile_get, rsrc_get, Blk.enc, FileM.enc]
         ·skip
          simp only [go_sem, Nat.reduceAdd, Nat.reduceEqDiff, Nat.reduceLeDiff, rdgm_get, dgm_all, file_all, blk_all, rfile_get, rsrc_get, Blk.enc, FileM.enc, h50, h54, h59, h69, h79]
          try simp [upd_at, h50, h54, h59, h69, h79, List.length_map, rdgm_get, dgm_all, file_all, blk_all, rfile_get, rsrc_get, Blk.enc, FileM.enc]
        ·skip
         cases h73 : (decide (b.sub > 0))
         ·skip
          cases h79 : (b.kind == 7)
          ·skip
           simp only [go_sem, Nat.reduceAdd, Nat.reduceEqDiff, Nat.reduceLeDiff, rdgm_get, dgm_all, file_all, blk_all, rfile_get, rsrc_get, Blk.enc, FileM.enc, h50, h54, h59, h69, h73, h79]
           try simp [upd_at, h50, h54, h59, h69, h73, h79, List.length_map, rdgm_get, dgm_all, file_all, blk_all, rfile_get, rsrc_get, Blk.enc, FileM.enc]
          ·skip
           simp only [go_sem, Nat.reduceAdd, Nat.reduceEqDiff, Nat.reduceLeDiff, rdgm_get, dgm_all, file_all, blk_all, rfile_get, rsrc_get, Blk.enc, FileM.enc, h50, h54, h59, h69, h73, h79]
           try simp [upd_at, h50, h54, h59, h69, h73, h79, List.length_map, rdgm_get, dgm_all, file_all, blk_all, rfile_get, rsrc_get, Blk.enc, FileM.enc]
         ·skip
          simp only [go_sem, Nat.reduceAdd, Nat.reduceEqDiff, Nat.reduceLeDiff, rdgm_get, dgm_all, file_all, blk_all, rfile_get, rsrc_get, Blk.enc, FileM.enc, h50, h54, h59, h69, h73]
          try simp [upd_at, h50, h54, h59, h69, h73, List.length_map, rdgm_get, dgm_all, file_all, blk_all, rfile_get, rsrc_get, Blk.enc, FileM.enc]
       ·skip
        cases h63 : (decide (b.n > 1))
        ·skip
         cases h69 : (b.kind != 7)
         ·skip
          cases h79 : (b.kind == 7)
          ·skip
           simp only [go_sem, Nat.reduceAdd, Nat.reduceEqDiff, Nat.reduceLeDiff, rdgm_get, dgm_all, file_all, blk_all, rfile_get, rsrc_get, Blk.enc, FileM.enc, h50, h54, h59, h63, h69, h79]
           try simp [upd_at, h50, h54, h59, h63, h69, h79, List.length_map, rdgm_get, dgm_all, file_all, blk_all, rfile_get, rsrc_get, Blk.enc, FileM.enc]
          ·skip
           simp only [go_sem, Nat.reduceAdd, Nat.reduceEqDiff, Nat.reduceLeDiff, rdgm_get, dgm_all, file_all, blk_all, rfile_get, rsrc_get, Blk.enc, FileM.enc, h50, h54, h59, h63, h69, h79]
           try simp [upd_at, h50, h54, h59, h63, h69, h79, List.length_map, rdgm_get, dgm_all, file_all, blk_all, rfile_get, rsrc_get, Blk.enc, FileM.enc]
         ·skip
          cases h73 : (decide (b.sub > 0))
          ·skip
           cases h79 : (b.kind == 7)
           ·skip
            simp only [go_sem, Nat.reduceAdd, Nat.reduceEqDiff, Nat.reduceLeDiff, rdgm_get, dgm_all, file_all, blk_all, rfile_get, rsrc_get, Blk.enc, FileM.enc, h50, h54, h59, h63, h69, h73, h79]
            try simp [upd_at, h50, h54, h59, h63, h69, h73, h79, List.length_map, rdgm_get, dgm_all, file_all, blk_all, rfile_get, rsrc_get, Blk.enc, FileM.enc]
           ·skip
            simp only [go_sem, Nat.reduceAdd, Nat.reduceEqDiff, Nat.reduceLeDiff, rdgm_get, dgm_all, file_all, blk_all, rfile_get, rsrc_get, Blk.enc, FileM.enc, h50, h54, h59, h63, h69, h73, h79]
            try simp [upd_at, h50, h54, h59, h63, h69, h73, h79, List.length_map, rdgm_get, dgm_all, file_all, blk_all, rfile_get, rsrc_get, Blk.enc, FileM.enc]
          ·skip
           simp only [go_sem, Nat.reduceAdd, Nat.reduceEqDiff, Nat.reduceLeDiff, rdgm_get, dgm_all, file_all, blk_all, rfile_get, rsrc_get, Blk.enc, FileM.enc, h50, h54, h59, h63, h69, h73]
           try simp [upd_at, h50, h54, h59, h63, h69, h73, List.length_map, rdgm_get, dgm_all, file_all, blk_all, rfile_get, rsrc_get, Blk.enc, FileM.enc]
        ·skip
         simp only [go_sem, Nat.reduceAdd, Nat.reduceEqDiff, Nat.reduceLeDiff, rdgm_get, dgm_all, file_all, blk_all, rfile_get, rsrc_get, Blk.enc, FileM.enc, h50, h54, h59, h63]
         try simp [upd_at, h50, h54, h59, h63, List.length_map, rdgm_get, dgm_all, file_all, blk_all, rfile_get, rsrc_get, Blk.enc, FileM.enc]
      ·skip
       simp only [go_sem, Nat.reduceAdd, Nat.reduceEqDiff, Nat.reduceLeDiff, rdgm_get, dgm_all, file_all, blk_all, rfile_get, rsrc_get, Blk.enc, FileM.enc, h50, h54]
       try simp [upd_at, h50, h54, List.length_map, rdgm_get, dgm_all, file_all, blk_all, rfile_get, rsrc_get, Blk.enc, FileM.enc]
    conv => enter [5]; simp only [sz0, sz1]
    refine AW.cond rfl (fun hc88 => ?_) (fun hc88 => ?_)
    ·skip
     refine AW.regl false [6] (by rfl) fun K14 hK14 => ?_
     simp only [go_sem, Nat.reduceAdd, Nat.reduceEqDiff, Nat.reduceLeDiff, rdgm_get, dgm_all, file_all, blk_all, rfile_get, rsrc_get]
     refine hK14 _ _ ?_
     conv => enter [5]; simp only [sl1, sl0, sz0, sz1]
     refine AW.ret ⟨.inr rfl, _, rfl, by simp, ?_⟩
     refine frzB ?_
     simp only [FileM.rblock]
     rw [if_neg (ne_true_of_eq_false hc31), if_neg (ne_true_of_eq_false hA), if_pos hc88]
    ·skip
     refine AW.skip ?_
     refine hK12 _ _ ?_
     refine AW.regl false [8] (by rfl) fun K15 hK15 => ?_
     simp only [go_sem, Nat.reduceAdd, Nat.reduceEqDiff, Nat.reduceLeDiff, rdgm_get, dgm_all, file_all, blk_all, rfile_get, rsrc_get, Blk.enc]
     refine hK15 _ _ ?_
     conv => enter [5]; simp only [sl1, sl0, sz0, sz1]
     refine AW.seq_k fun K16 hK16 => ?_
     refine AW.regl false [93] (by rfl) fun K17 hK17 => ?_
     simp only [go_sem, Nat.reduceAdd, Nat.reduceEqDiff, Nat.reduceLeDiff, rdgm_get, dgm_all, file_all, blk_all, rfile_get, rsrc_get, Blk.enc]
     refine hK17 _ _ ?_
     conv => enter [5]; simp only [sl1, sl0, sz0, sz1]
     refine AW.block ?_
     refine AW.mid (α := Unit) (fun _ => [.any, .any, .any, (.ref σ.length 0), (.ref (σ.length + 1) 0), (.ref (σ.length + 2) 0), .any, .any, (.val (.int .i64 (b.src.length : Nat))), .any, .any, .any, .any, .any, .any, .any, .any, .any, .any, .any, .any, .any, .any, .any, .any, .any, .any, .any, .any, .any, .any, .any, .any, .any, .any, .any, .any, .any, .any, .any, .any, .any, .any, .any, .any, .any, .any, .any, .any, .any, .any, .any, .any, .any, .any, .any, .any, .any, .any, .any, .any, .any, .any, .any, .any, .any, .any, .any, .any, .any, .any, .any, .any, .any, .any, .any, .any, .any, .any, .any, .any, .any, .any, .any, .any, .any, .any, .any, .any, .any, .any, .any, .any, (.val (.int .i64 b.kind)), (.val (.bool ((b.kind == 0) || (b.kind == 1)))), .any, .any, .any, .any, .any, .any, .any, .any, .any, .any, .any, .any, .any, .any, .any, .any, .any, .any, .any, .any, .any, .any, .any, .any, .any, .any, .any, .any, .any, .any, .any, .any, .any, .any, .any, .any, .any, .any, .any, .any, .any, .any, .any, .any, .any, .any, .any, .any, .any, .any, .any, .any, .any, .any]) (fun _ => σ ++ [.cells f.enc.cells, .cells d.enc.cells, .cells b.enc.cells]) (fun _ => True) ?_ ?_
     ·skip
      refine AW.regl false [94] (by rfl) fun K19 hK19 => ?_
      simp only [go_sem, Nat.reduceAdd, Nat.reduceEqDiff, Nat.reduceLeDiff, rdgm_get, dgm_all, file_all, blk_all, rfile_get, rsrc_get]
      refine hK19 _ _ ?_
      conv => enter [5]; simp only [sl1, sl0, sz0, sz1]
      refine AW.cond rfl (fun hc94 => ?_) (fun hc94 => ?_)
      ·skip
       refine AW.skip ?_
       exact ⟨(), trivial, (by simp [Wk, hc94]), rfl⟩
      ·skip
       refine AW.lastl false [94] (by rfl) fun K hK => ?_
       simp only [go_sem, Nat.reduceAdd, Nat.reduceEqDiff, Nat.reduceLeDiff, rdgm_get, dgm_all, file_all, blk_all, rfile_get, rsrc_get]
       refine hK _ _ fun env' hw => ?_
       simp only [setL_cons, setL_nil, List.set_cons_zero, List.set_cons_succ] at hw
       exact ⟨(), trivial, (hw.trans (by simp [Wk, hc94])), rfl⟩
     ·skip
      intro _ _
      refine AW.cond rfl (fun hc94 => ?_) (fun hc94 => ?_)
      ·skip
       refine AW.regtf false 6 (.val (.bool ((b.src.length : Int) == 0 && b.op == 0))) (by rfl) ?_ ?_
       ·skip
        cases h98 : ((b.src.length : Int) == 0)
        ·skip
         simp only [go_sem, Nat.reduceAdd, Nat.reduceEqDiff, Nat.reduceLeDiff, rdgm_get, dgm_all, file_all, blk_all, rfile_get, rsrc_get, Blk.enc, h98]
         try simp [upd_at, h98, List.length_map, rdgm_get, dgm_all, file_all, blk_all, rfile_get, rsrc_get, Blk.enc]
        ·skip
         simp only [go_sem, Nat.reduceAdd, Nat.reduceEqDiff, Nat.reduceLeDiff, rdgm_get, dgm_all, file_all, blk_all, rfile_get, rsrc_get, Blk.enc, h98]
         try simp [upd_at, h98, List.length_map, rdgm_get, dgm_all, file_all, blk_all, rfile_get, rsrc_get, Blk.enc]
       conv => enter [5]; simp only [sz0, sz1]
       refine AW.ret ⟨.inr rfl, _, rfl, by simp, ?_⟩
       refine frzB ?_
       simp only [FileM.rblock]
       rw [if_neg (ne_true_of_eq_false hc31), if_neg (ne_true_of_eq_false hA), if_neg (ne_true_of_eq_false hc88)]
       simp only [*, Bool.true_or, Bool.or_true, Bool.or_self, if_true, if_false, Bool.false_eq_true]
      ·skip
       refine AW.mid (α := Unit) (fun _ => [.any, .any, .any, (.ref σ.length 0), (.ref (σ.length + 1) 0), (.ref (σ.length + 2) 0), .any, .any, (.val (.int .i64 (b.src.length : Nat))), .any, .any, .any, .any, .any, .any, .any, .any, .any, .any, .any, .any, .any, .any, .any, .any, .any, .any, .any, .any, .any, .any, .any, .any, .any, .any, .any, .any, .any, .any, .any, .any, .any, .any, .any, .any, .any, .any, .any, .any, .any, .any, .any, .any, .any, .any, .any, .any, .any, .any, .any, .any, .any, .any, .any, .any, .any, .any, .any, .any, .any, .any, .any, .any, .any, .any, .any, .any, .any, .any, .any, .any, .any, .any, .any, .any, .any, .any, .any, .any, .any, .any, .any, .any, (.val (.int .i64 b.kind)), .any, .any, .any, .any, .any, .any, .any, .any, .any, .any, (.val (.bool ((b.kind == 2) || (b.kind == 4)))), .any, .any, .any, .any, .any, .any, .any, .any, .any, .any, .any, .any, .any, .any, .any, .any, .any, .any, .any, .any, .any, .any, .any, .any, .any, .any, .any, .any, .any, .any, .any, .any, .any, .any, .any, .any, .any, .any, .any, .any, .any, .any, .any, .any]) (fun _ => σ ++ [.cells f.enc.cells, .cells d.enc.cells, .cells b.enc.cells]) (fun _ => True) ?_ ?_
       ·skip
        refine AW.regl false [104] (by rfl) fun K22 hK22 => ?_
        simp only [go_sem, Nat.reduceAdd, Nat.reduceEqDiff, Nat.reduceLeDiff, rdgm_get, dgm_all, file_all, blk_all, rfile_get, rsrc_get]
        refine hK22 _ _ ?_
        conv => enter [5]; simp only [sl1, sl0, sz0, sz1]
        refine AW.cond rfl (fun hc104 => ?_) (fun hc104 => ?_)
        ·skip
         refine AW.skip ?_
         exact ⟨(), trivial, (by simp [Wk, hc104]), rfl⟩
        ·skip
         refine AW.lastl false [104] (by rfl) fun K hK => ?_
         simp only [go_sem, Nat.reduceAdd, Nat.reduceEqDiff, Nat.reduceLeDiff, rdgm_get, dgm_all, file_all, blk_all, rfile_get, rsrc_get]
         refine hK _ _ fun env' hw => ?_
         simp only [setL_cons, setL_nil, List.set_cons_zero, List.set_cons_succ] at hw
         exact ⟨(), trivial, (hw.trans (by simp [Wk, hc104])), rfl⟩
       ·skip
        intro _ _
        refine AW.cond rfl (fun hc104 => ?_) (fun hc104 => ?_)
        ·skip
         refine AW.regtf false 6 (.val (.bool ((b.src.length : Int) == 1 && decide (b.op ≤ 1)))) (by rfl) ?_ ?_
         ·skip
          cases h108 : ((b.src.length : Int) == 1)
          ·skip
           simp only [go_sem, Nat.reduceAdd, Nat.reduceEqDiff, Nat.reduceLeDiff, rdgm_get, dgm_all, file_all, blk_all, rfile_get, rsrc_get, Blk.enc, h108]
           try simp [upd_at, h108, List.length_map, rdgm_get, dgm_all, file_all, blk_all, rfile_get, rsrc_get, Blk.enc]
          ·skip
           simp only [go_sem, Nat.reduceAdd, Nat.reduceEqDiff, Nat.reduceLeDiff, rdgm_get, dgm_all, file_all, blk_all, rfile_get, rsrc_get, Blk.enc, h108]
           try simp [upd_at, h108, List.length_map, rdgm_get, dgm_all, file_all, blk_all, rfile_get, rsrc_get, Blk.enc]
         conv => enter [5]; simp only [sz0, sz1]
         refine AW.ret ⟨.inr rfl, _, rfl, by simp, ?_⟩
         refine frzB ?_
         simp only [FileM.rblock]
         rw [if_neg (ne_true_of_eq_false hc31), if_neg (ne_true_of_eq_false hA), if_neg (ne_true_of_eq_false hc88)]
         simp only [*, Bool.true_or, Bool.or_true, Bool.or_self, if_true, if_false, Bool.false_eq_true]
        ·skip
         refine AW.regl false [114] (by rfl) fun K24 hK24 => ?_
         simp only [go_sem, Nat.reduceAdd, Nat.reduceEqDiff, Nat.reduceLeDiff, rdgm_get, dgm_all, file_all, blk_all, rfile_get, rsrc_get]
         refine hK24 _ _ ?_
         conv => enter [5]; simp only [sl1, sl0, sz0, sz1]
         refine AW.cond rfl (fun hc114 => ?_) (fun hc114 => ?_)
         ·skip
          refine AW.regtf false 6 (.val (.bool (((b.src.length : Int) == 2 && decide (b.op ≥ 1)) && decide (b.op ≤ 15)))) (by rfl) ?_ ?_
          ·skip
           cases h117 : ((b.src.length : Int) == 2)
           ·skip
            simp only [go_sem, Nat.reduceAdd, Nat.reduceEqDiff, Nat.reduceLeDiff, rdgm_get, dgm_all, file_all, blk_all, rfile_get, rsrc_get, Blk.enc, h117]
            try simp [upd_at, h117, List.length_map, rdgm_get, dgm_all, file_all, blk_all, rfile_get, rsrc_get, Blk.enc]
           ·skip
            cases h121 : (decide (b.op ≥ 1))
            ·skip
             simp only [go_sem, Nat.reduceAdd, Nat.reduceEqDiff, Nat.reduceLeDiff, rdgm_get, dgm_all, file_all, blk_all, rfile_get, rsrc_get, Blk.enc, h117, h121]
             try simp [upd_at, h117, h121, List.length_map, rdgm_get, dgm_all, file_all, blk_all, rfile_get, rsrc_get, Blk.enc]
            ·skip
             simp only [go_sem, Nat.reduceAdd, Nat.reduceEqDiff, Nat.reduceLeDiff, rdgm_get, dgm_all, file_all, blk_all, rfile_get, rsrc_get, Blk.enc, h117, h121]
             try simp [upd_at, h117, h121, List.length_map, rdgm_get, dgm_all, file_all, blk_all, rfile_get, rsrc_get, Blk.enc]
          conv => enter [5]; simp only [sz0, sz1]
          refine AW.ret ⟨.inr rfl, _, rfl, by simp, ?_⟩
          refine frzB ?_
          simp only [FileM.rblock]
          rw [if_neg (ne_true_of_eq_false hc31), if_neg (ne_true_of_eq_false hA), if_neg (ne_true_of_eq_false hc88)]
          simp only [*, Bool.true_or, Bool.or_true, Bool.or_self, if_true, if_false, Bool.false_eq_true]
         ·skip
          refine AW.regl false [128] (by rfl) fun K26 hK26 => ?_
          simp only [go_sem, Nat.reduceAdd, Nat.reduceEqDiff, Nat.reduceLeDiff, rdgm_get, dgm_all, file_all, blk_all, rfile_get, rsrc_get]
          refine hK26 _ _ ?_
          conv => enter [5]; simp only [sl1, sl0, sz0, sz1]
          refine AW.cond rfl (fun hc128 => ?_) (fun hc128 => ?_)
          ·skip
           refine AW.regtf false 6 (.val (.bool ((b.src.length : Int) == 2 && b.op == 0))) (by rfl) ?_ ?_
           ·skip
            cases h131 : ((b.src.length : Int) == 2)
            ·skip
             simp only [go_sem, Nat.reduceAdd, Nat.reduceEqDiff, Nat.reduceLeDiff, rdgm_get, dgm_all, file_all, blk_all, rfile_get, rsrc_get, Blk.enc, h131]
             try simp [upd_at, h131, List.length_map, rdgm_get, dgm_all, file_all, blk_all, rfile_get, rsrc_get, Blk.enc]
            ·skip
             simp only [go_sem, Nat.reduceAdd, Nat.reduceEqDiff, Nat.reduceLeDiff, rdgm_get, dgm_all, file_all, blk_all, rfile_get, rsrc_get, Blk.enc, h131]
             try simp [upd_at, h131, List.length_map, rdgm_get, dgm_all, file_all, blk_all, rfile_get, rsrc_get, Blk.enc]
           conv => enter [5]; simp only [sz0, sz1]
           refine AW.ret ⟨.inr rfl, _, rfl, by simp, ?_⟩
           refine frzB ?_
           simp only [FileM.rblock]
           rw [if_neg (ne_true_of_eq_false hc31), if_neg (ne_true_of_eq_false hA), if_neg (ne_true_of_eq_false hc88)]
           simp only [*, Bool.true_or, Bool.or_true, Bool.or_self, if_true, if_false, Bool.false_eq_true]
          ·skip
           refine AW.regl false [137] (by rfl) fun K28 hK28 => ?_
           simp only [go_sem, Nat.reduceAdd, Nat.reduceEqDiff, Nat.reduceLeDiff, rdgm_get, dgm_all, file_all, blk_all, rfile_get, rsrc_get]
           refine hK28 _ _ ?_
           conv => enter [5]; simp only [sl1, sl0, sz0, sz1]
           refine AW.cond rfl (fun hc137 => ?_) (fun hc137 => ?_)
           ·skip
            refine AW.regtf false 6 (.val (.bool ((b.src.length : Int) == 3 && b.op == 0))) (by rfl) ?_ ?_
            ·skip
             cases h140 : ((b.src.length : Int) == 3)
             ·skip
              simp only [go_sem, Nat.reduceAdd, Nat.reduceEqDiff, Nat.reduceLeDiff, rdgm_get, dgm_all, file_all, blk_all, rfile_get, rsrc_get, Blk.enc, h140]
              try simp [upd_at, h140, List.length_map, rdgm_get, dgm_all, file_all, blk_all, rfile_get, rsrc_get, Blk.enc]
             ·skip
              simp only [go_sem, Nat.reduceAdd, Nat.reduceEqDiff, Nat.reduceLeDiff, rdgm_get, dgm_all, file_all, blk_all, rfile_get, rsrc_get, Blk.enc, h140]
              try simp [upd_at, h140, List.length_map, rdgm_get, dgm_all, file_all, blk_all, rfile_get, rsrc_get, Blk.enc]
            conv => enter [5]; simp only [sz0, sz1]
            refine AW.ret ⟨.inr rfl, _, rfl, by simp, ?_⟩
            refine frzB ?_
            simp only [FileM.rblock]
            rw [if_neg (ne_true_of_eq_false hc31), if_neg (ne_true_of_eq_false hA), if_neg (ne_true_of_eq_false hc88)]
            simp only [*, Bool.true_or, Bool.or_true, Bool.or_self, if_true, if_false, Bool.false_eq_true]
           ·skip
            refine AW.skip ?_
            refine hK16 _ _ ?_
            refine AW.regl false [6] (by rfl) fun K30 hK30 => ?_
            simp only [go_sem, Nat.reduceAdd, Nat.reduceEqDiff, Nat.reduceLeDiff, rdgm_get, dgm_all, file_all, blk_all, rfile_get, rsrc_get, Blk.enc]
            refine hK30 _ _ ?_
            conv => enter [5]; simp only [sl1, sl0, sz0, sz1]
            refine AW.ret ⟨.inr rfl, _, rfl, by simp, ?_⟩
            refine frzB ?_
            simp only [FileM.rblock]
            rw [if_neg (ne_true_of_eq_false hc31), if_neg (ne_true_of_eq_false hA), if_neg (ne_true_of_eq_false hc88)]
            simp only [*, Bool.true_or, Bool.or_true, Bool.or_self, if_true, if_false, Bool.false_eq_true]
end Go.Proofs.Tryd
/-! Diagrams: what the program's functions come to. -/
namespace Go.Proofs.Tryd
set_option linter.unusedSimpArgs false
set_option linter.unusedVariables false
open Go Go.Proofs.Ev
variable {w : AV} {G : List (Nat × List AV)}
variable {Γ : List (Nat × List AV)}
attribute [local go_sem] true_and
set_option maxRecDepth 100000 in
theorem results_calls (f : FileM) (b : Blk) : APure prog Γ 76 [f.enc, b.enc] (.val (.int .i64 (f.results b))) := by
 refine APure.of func76 rfl fun σ => ?_
 simp only [ntmps76, List.length_cons, List.length_nil, Nat.reduceAdd, Nat.reduceSub, List.replicate_succ, List.replicate_zero, List.cons_append, List.nil_append]
 obtain ⟨kind, op, sub, bn, bx, by', nl, src⟩ := b
 obtain ⟨fnl, ds⟩ := f
 refine AW.regl false [2, 3, 4] (by rfl) fun K1 hK1 => ?_
 simp only [go_sem, Nat.reduceAdd, Nat.reduceEqDiff, Nat.reduceLeDiff, FileM.enc, Blk.enc, List.length_map]
 refine hK1 _ _ ?_
 conv => enter [5]; simp only [sl1, sl0, sz0, sz1]
 refine AW.seq_k fun K2 hK2 => ?_
 refine AW.block ?_
 refine AW.regtf false 5 (.val (.bool (decide (kind < 0) || decide (kind > 7)))) (by rfl) ?_ ?_
 ·skip
  cases h8 : (decide (kind < 0))
  ·skip
   simp only [go_sem, Nat.reduceAdd, Nat.reduceEqDiff, Nat.reduceLeDiff, FileM.enc, Blk.enc, List.length_map, h8]
   try simp [upd_at, h8, FileM.enc, Blk.enc, List.length_map]
  ·skip
   simp only [go_sem, Nat.reduceAdd, Nat.reduceEqDiff, Nat.reduceLeDiff, FileM.enc, Blk.enc, List.length_map, h8]
   try simp [upd_at, h8, FileM.enc, Blk.enc, List.length_map]
 conv => enter [5]; simp only [sz0, sz1]
 refine AW.cond rfl (fun hc5 => ?_) (fun hc5 => ?_)
 ·skip
  refine AW.regl false [4] (by rfl) fun K4 hK4 => ?_
  simp only [go_sem, Nat.reduceAdd, Nat.reduceEqDiff, Nat.reduceLeDiff, FileM.enc, Blk.enc, List.length_map]
  refine hK4 _ _ ?_
  conv => enter [5]; simp only [sl1, sl0, sz0, sz1]
  refine AW.ret ⟨.inr rfl, _, rfl, by simp, ?_⟩
  simp only [FileM.results]
  rw [if_pos hc5]
  exact .keep rfl
 ·skip
  refine AW.regl false [14] (by rfl) fun K5 hK5 => ?_
  simp only [go_sem, Nat.reduceAdd, Nat.reduceEqDiff, Nat.reduceLeDiff, FileM.enc, Blk.enc, List.length_map]
  refine hK5 _ _ ?_
  conv => enter [5]; simp only [sl1, sl0, sz0, sz1]
  refine AW.cond rfl (fun hc14 => ?_) (fun hc14 => ?_)
  ·skip
   refine AW.regl false [4] (by rfl) fun K6 hK6 => ?_
   simp only [go_sem, Nat.reduceAdd, Nat.reduceEqDiff, Nat.reduceLeDiff, FileM.enc, Blk.enc, List.length_map]
   refine hK6 _ _ ?_
   conv => enter [5]; simp only [sl1, sl0, sz0, sz1]
   refine AW.ret ⟨.inr rfl, _, rfl, by simp, ?_⟩
   simp only [FileM.results]
   rw [if_neg (ne_true_of_eq_false hc5), if_pos hc14]
   exact .keep rfl
  ·skip
   refine AW.regtf false 18 (.val (.bool (decide (sub < 0) || decide (sub ≥ (ds.length : Int))))) (by rfl) ?_ ?_
   ·skip
    cases h21 : (decide (sub < 0))
    ·skip
     simp only [go_sem, Nat.reduceAdd, Nat.reduceEqDiff, Nat.reduceLeDiff, FileM.enc, Blk.enc, List.length_map, h21]
     try simp [upd_at, h21, FileM.enc, Blk.enc, List.length_map]
    ·skip
     simp only [go_sem, Nat.reduceAdd, Nat.reduceEqDiff, Nat.reduceLeDiff, FileM.enc, Blk.enc, List.length_map, h21]
     try simp [upd_at, h21, FileM.enc, Blk.enc, List.length_map]
   conv => enter [5]; simp only [sz0, sz1]
   refine AW.cond rfl (fun hc18 => ?_) (fun hc18 => ?_)
   ·skip
    refine AW.regl false [4] (by rfl) fun K8 hK8 => ?_
    simp only [go_sem, Nat.reduceAdd, Nat.reduceEqDiff, Nat.reduceLeDiff, FileM.enc, Blk.enc, List.length_map]
    refine hK8 _ _ ?_
    conv => enter [5]; simp only [sl1, sl0, sz0, sz1]
    refine AW.ret ⟨.inr rfl, _, rfl, by simp, ?_⟩
    simp only [FileM.results]
    rw [if_neg (ne_true_of_eq_false hc5), if_neg (ne_true_of_eq_false hc14), if_pos hc18]
    exact .keep rfl
   ·skip
    have h0 : ¬ sub < 0 ∧ sub < ds.length := by simpa using hc18
    obtain ⟨j, rfl⟩ := Int.eq_ofNat_of_zero_le (by omega : 0 ≤ sub)
    have hj : j < ds.length := by omega
    have hx : (ds.map Dgm.enc)[j]? = some (ds[j]).enc := by simp [hj]
    refine AW.skip ?_
    refine hK2 _ _ ?_
    refine AW.regl false [4] (by rfl) fun K9 hK9 => ?_
    simp only [go_sem, Nat.reduceAdd, Nat.reduceEqDiff, Nat.reduceLeDiff, FileM.enc, Blk.enc, List.length_map, at_row hx, Dgm.enc]
    refine hK9 _ _ ?_
    conv => enter [5]; simp only [sl1, sl0, sz0, sz1]
    refine AW.ret ⟨.inr rfl, _, rfl, by simp, ?_⟩
    simp only [FileM.results]
    rw [if_neg (ne_true_of_eq_false hc5), if_neg (ne_true_of_eq_false hc14), if_neg (ne_true_of_eq_false hc18)]
    simp only [Int.toNat_natCast, List.getElem?_eq_getElem hj]
    exact .keep rfl

set_option maxRecDepth 100000 in
theorem source_calls (f : FileM) (d : Dgm) (s : Src) : APure prog Γ 71 [f.enc, d.enc, s.enc] (.val (.bool (f.source d s))) := by
 refine APure.of func71 rfl fun σ => ?_
 simp only [ntmps71, List.length_cons, List.length_nil, Nat.reduceAdd, Nat.reduceSub, List.replicate_succ, List.replicate_zero, List.cons_append, List.nil_append]
 obtain ⟨block, port⟩ := s
 obtain ⟨name, nlI, ins, nlO, outs, nlB, blocks⟩ := d
 refine AW.regl false [3, 4, 5, 6] (by rfl) fun K1 hK1 => ?_
 simp only [go_sem, Nat.reduceAdd, Nat.reduceEqDiff, Nat.reduceLeDiff, FileM.enc, Dgm.enc, Src.enc, List.length_map]
 refine hK1 _ _ ?_
 conv => enter [5]; simp only [sl1, sl0, sz0, sz1]
 refine AW.regl false [7] (by rfl) fun K2 hK2 => ?_
 simp only [go_sem, Nat.reduceAdd, Nat.reduceEqDiff, Nat.reduceLeDiff, FileM.enc, Dgm.enc, Src.enc, List.length_map]
 refine hK2 _ _ ?_
 conv => enter [5]; simp only [sl1, sl0, sz0, sz1]
 refine AW.seq_k fun K3 hK3 => ?_
 refine AW.regl false [13] (by rfl) fun K4 hK4 => ?_
 simp only [go_sem, Nat.reduceAdd, Nat.reduceEqDiff, Nat.reduceLeDiff, FileM.enc, Dgm.enc, Src.enc, List.length_map]
 refine hK4 _ _ ?_
 conv => enter [5]; simp only [sl1, sl0, sz0, sz1]
 refine AW.cond rfl (fun hc13 => ?_) (fun hc13 => ?_)
 ·skip
  refine AW.seq_k fun K5 hK5 => ?_
  refine AW.regtf false 24 (.val (.bool (decide (block < 0) || decide (block ≥ (blocks.length : Int))))) (by rfl) ?_ ?_
  ·skip
   cases h16 : (decide (block < 0))
   ·skip
    simp only [go_sem, Nat.reduceAdd, Nat.reduceEqDiff, Nat.reduceLeDiff, FileM.enc, Dgm.enc, Src.enc, List.length_map, h16]
    try simp [upd_at, h16, FileM.enc, Dgm.enc, Src.enc, List.length_map]
   ·skip
    simp only [go_sem, Nat.reduceAdd, Nat.reduceEqDiff, Nat.reduceLeDiff, FileM.enc, Dgm.enc, Src.enc, List.length_map, h16]
    try simp [upd_at, h16, FileM.enc, Dgm.enc, Src.enc, List.length_map]
  conv => enter [5]; simp only [sz0, sz1]
  refine AW.cond rfl (fun hc24 => ?_) (fun hc24 => ?_)
  ·skip
   refine AW.regl false [6] (by rfl) fun K7 hK7 => ?_
   simp only [go_sem, Nat.reduceAdd, Nat.reduceEqDiff, Nat.reduceLeDiff, FileM.enc, Dgm.enc, Src.enc, List.length_map]
   refine hK7 _ _ ?_
   conv => enter [5]; simp only [sl1, sl0, sz0, sz1]
   refine AW.ret ⟨.inr rfl, _, rfl, by simp, ?_⟩
   refine frzB ?_
   simp only [FileM.source]
   rw [if_pos hc13, if_pos hc24]
  ·skip
   have h0 : ¬ block < 0 ∧ block < blocks.length := by simpa using hc24
   obtain ⟨j, rfl⟩ := Int.eq_ofNat_of_zero_le (by omega : 0 ≤ block)
   have hj : j < blocks.length := by omega
   have hx : (blocks.map Blk.enc)[j]? = some (blocks[j]).enc := by simp [hj]
   refine AW.skip ?_
   refine hK5 _ _ ?_
   refine AW.lastdl mixed false [7] (by kernel_rfl) (by rfl) fun K hK => ?_
   simp only [go_sem, Nat.reduceAdd, Nat.reduceEqDiff, Nat.reduceLeDiff, FileM.enc, Dgm.enc, Src.enc, List.length_map, at_row hx, blk_get]
   refine qC.of en76 ((results_calls f blocks[j]).on _).here rfl ?_
   try simp only [go_sem, Nat.reduceAdd, Nat.reduceEqDiff, Nat.reduceLeDiff, FileM.enc, Dgm.enc, Src.enc, List.length_map, at_row hx, blk_get]
   refine hK _ fun env' hw => ?_
   simp only [setL_cons, setL_nil, List.set_cons_zero, List.set_cons_succ] at hw
   refine hK3 _ _ (AW.weaken hw ?_); clear hw
   refine AW.regtf false 6 (.val (.bool (decide (port ≥ 0) && decide (port < f.results blocks[j])))) (by rfl) ?_ ?_
   ·skip
    cases h35 : (decide (port ≥ 0))
    ·skip
     simp only [go_sem, Nat.reduceAdd, Nat.reduceEqDiff, Nat.reduceLeDiff, FileM.enc, Dgm.enc, Src.enc, List.length_map, h35]
     try simp [upd_at, h35, FileM.enc, Dgm.enc, Src.enc, List.length_map]
    ·skip
     simp only [go_sem, Nat.reduceAdd, Nat.reduceEqDiff, Nat.reduceLeDiff, FileM.enc, Dgm.enc, Src.enc, List.length_map, h35]
     try simp [upd_at, h35, FileM.enc, Dgm.enc, Src.enc, List.length_map]
   conv => enter [5]; simp only [sz0, sz1]
   refine AW.ret ⟨.inr rfl, _, rfl, by simp, ?_⟩
   refine frzB ?_
   simp only [FileM.source]
   rw [if_pos hc13, if_neg (ne_true_of_eq_false hc24)]
   simp only [Int.toNat_natCast, List.getElem?_eq_getElem hj]
 ·skip
  refine AW.skip ?_
  refine hK3 _ _ ?_
  refine AW.regtf false 6 (.val (.bool (decide (port ≥ 0) && decide (port < (ins.length : Int))))) (by rfl) ?_ ?_
  ·skip
   cases h35 : (decide (port ≥ 0))
   ·skip
    simp only [go_sem, Nat.reduceAdd, Nat.reduceEqDiff, Nat.reduceLeDiff, FileM.enc, Dgm.enc, Src.enc, List.length_map, h35]
    try simp [upd_at, h35, FileM.enc, Dgm.enc, Src.enc, List.length_map]
   ·skip
    simp only [go_sem, Nat.reduceAdd, Nat.reduceEqDiff, Nat.reduceLeDiff, FileM.enc, Dgm.enc, Src.enc, List.length_map, h35]
    try simp [upd_at, h35, FileM.enc, Dgm.enc, Src.enc, List.length_map]
  conv => enter [5]; simp only [sz0, sz1]
  refine AW.ret ⟨.inr rfl, _, rfl, by simp, ?_⟩
  refine frzB ?_
  simp only [FileM.source]
  rw [if_neg (ne_true_of_eq_false hc13)]

set_option maxRecDepth 100000 in
theorem port_calls (p : PortM) : APure prog Γ 68 [p.enc] (.val (.bool p.right)) := by
 refine APure.of func68 rfl fun σ => ?_
 simp only [ntmps68, List.length_cons, List.length_nil, Nat.reduceAdd, Nat.reduceSub, List.replicate_succ, List.replicate_zero, List.cons_append, List.nil_append]
 obtain ⟨name, type⟩ := p
 refine AW.regl false [1, 2] (by rfl) fun K1 hK1 => ?_
 simp only [go_sem, Nat.reduceAdd, Nat.reduceEqDiff, Nat.reduceLeDiff, PortM.enc]
 refine hK1 _ _ ?_
 conv => enter [5]; simp only [sl1, sl0, sz0, sz1]
 refine AW.regtf false 2 (.val (.bool ((decide ((name.size : Int) ≤ 65535) && decide (type ≥ 0)) && decide (type ≤ 1)))) (by rfl) ?_ ?_
 ·skip
  cases h6 : (decide ((name.size : Int) ≤ 65535))
  ·skip
   simp only [go_sem, Nat.reduceAdd, Nat.reduceEqDiff, Nat.reduceLeDiff, PortM.enc, h6]
   try simp [upd_at, h6, PortM.enc]
  ·skip
   cases h10 : (decide (type ≥ 0))
   ·skip
    simp only [go_sem, Nat.reduceAdd, Nat.reduceEqDiff, Nat.reduceLeDiff, PortM.enc, h6, h10]
    try simp [upd_at, h6, h10, PortM.enc]
   ·skip
    simp only [go_sem, Nat.reduceAdd, Nat.reduceEqDiff, Nat.reduceLeDiff, PortM.enc, h6, h10]
    try simp [upd_at, h6, h10, PortM.enc]
 conv => enter [5]; simp only [sz0, sz1]
 refine AW.ret ⟨.inr rfl, _, rfl, by simp, ?_⟩
 refine frzB ?_
 rfl

set_option maxRecDepth 100000 in
theorem block1_calls (f : FileM) (d : Dgm) (s : Src) {σ : Sto} {o1 o2 : Nat} (h1 : σ[o1]? = some (.cells f.enc.cells)) (h2 : σ[o2]? = some (.cells d.enc.cells)) : APureOn prog Γ 88 [s.enc, .ref o1 0, .ref o2 0] σ (.val (.bool (!f.source d s))) := by
 refine APureOn.of func88 rfl fun τ => ?_
 simp only [ntmps88, List.length_cons, List.length_nil, Nat.reduceAdd, Nat.reduceSub, List.replicate_succ, List.replicate_zero, List.cons_append, List.nil_append]
 have h1' := getL h1 τ
 have h2' := getL h2 τ
 generalize σ ++ τ = σ at h1' h2' ⊢
 have g1 := getL h1'
 have g2 := getL h2'
 refine AW.regl false [3, 4] (by rfl) fun K1 hK1 => ?_
 simp only [go_sem, Nat.reduceAdd, Nat.reduceEqDiff, Nat.reduceLeDiff, g1, g2, src_get, dgm_get, file_get, src_all]
 refine hK1 _ _ ?_
 conv => enter [5]; simp only [sl1, sl0, sz0, sz1]
 refine AW.regl false [4] (by rfl) fun K2 hK2 => ?_
 simp only [go_sem, Nat.reduceAdd, Nat.reduceEqDiff, Nat.reduceLeDiff, g1, g2, src_get, dgm_get, file_get, src_all]
 refine sC.of en71 ((source_calls f d s).on _).here rfl ?_
 try simp only [go_sem, Nat.reduceAdd, Nat.reduceEqDiff, Nat.reduceLeDiff, g1, g2, src_get, dgm_get, file_get, src_all]
 refine hK2 _ _ ?_
 conv => enter [5]; simp only [sl1, sl0, sz0, sz1]
 refine AW.ret ⟨.inr rfl, _, rfl, by simp, ?_⟩
 exact .keep rfl

set_option maxRecDepth 100000 in
theorem indexFunc97 {α : Type} (en : α → AV) (hen : ∀ a, aGet prog 26 (en a).cells = some (en a)) (nl : Bool) (l : List α) (hl : l.length ≤ maxLen) (g : FuncId) (hg : Enters prog g) (caps : List AV) (p : α → Bool) (σ : Sto) (hp : ∀ a ∈ l, APureOn prog Γ g (en a :: caps) σ (.val (.bool (p a)))) : APureOn prog Γ 97 [rowAV 2 nl (l.map en), .fn g caps] σ (.val (.int .i64 (idxFrom p 0 l))) := by
 refine APureOn.of func97 rfl fun τ => ?_
 simp only [ntmps97, List.length_cons, List.length_nil, Nat.reduceAdd, Nat.reduceSub, List.replicate_succ, List.replicate_zero, List.cons_append, List.nil_append]
 have hp' : ∀ (i : Nat) (h : i < l.length), APureOn prog Γ g (en l[i] :: caps) (σ ++ τ) (.val (.bool (p l[i]))) := fun i h => (hp _ (List.getElem_mem h)).more τ
 generalize σ ++ τ = σ at hp' ⊢
 refine AW.regl false [4] (by rfl) fun K1 hK1 => ?_
 simp only [go_sem, Nat.reduceAdd, Nat.reduceEqDiff, Nat.reduceLeDiff, List.length_map, hen]
 refine hK1 _ _ ?_
 conv => enter [5]; simp only [sl1, sl0, sz0, sz1]
 refine AW.seq_k fun K2 hK2 => ?_
 refine AW.regl false [7, 8] (by rfl) fun K3 hK3 => ?_
 simp only [go_sem, Nat.reduceAdd, Nat.reduceEqDiff, Nat.reduceLeDiff, List.length_map, hen]
 refine hK3 _ _ ?_
 conv => enter [5]; simp only [sl1, sl0, sz0, sz1]
 refine AW.block ?_
 refine AW.loop_wk (α := Nat) (fun i => [(rowAV 2 nl (l.map en)), (.fn g caps), .any, .any, .any, .any, .any, (.val (.int .i64 (l.length : Nat))), (.val (.int .i64 (i : Nat))), .any, .any, .any, .any, .any, .any, .any, .any, .any, .any]) (fun i => σ) (fun i => l.length - i) (fun i => i ≤ l.length ∧ idxFrom p 0 l = idxFrom p i (l.drop i)) 0 ?_ ?_
 ·exact ⟨⟨Nat.zero_le _, rfl⟩, by simp [Wk], rfl⟩
 ·rintro i ⟨hi, hix⟩
  refine AW.regl false [9] (by rfl) fun K4 hK4 => ?_
  simp only [go_sem, Nat.reduceAdd, Nat.reduceEqDiff, Nat.reduceLeDiff, List.length_map, hen]
  refine hK4 _ _ ?_
  conv => enter [5]; simp only [sl1, sl0, sz0, sz1]
  refine AW.seq_k fun K5 hK5 => ?_
  refine AW.cond rfl (fun hc9 => ?_) (fun hc9 => ?_)
  ·skip
   have hc9 : i < l.length := by simpa using hc9
   have hx : (l.map en)[i]? = some (en l[i]) := by simp [hc9]
   rw [idxFrom_drop p l i hc9] at hix
   refine AW.skip ?_
   refine hK5 _ _ ?_
   refine AW.seq_k fun K6 hK6 => ?_
   refine AW.block ?_
   refine AW.regl false [5] (by rfl) fun K7 hK7 => ?_
   simp only [go_sem, Nat.reduceAdd, Nat.reduceEqDiff, Nat.reduceLeDiff, List.length_map, hen]
   refine hK7 _ _ ?_
   conv => enter [5]; simp only [sl1, sl0, sz0, sz1]
   refine AW.regl false [16] (by rfl) fun K8 hK8 => ?_
   simp only [go_sem, Nat.reduceAdd, Nat.reduceEqDiff, Nat.reduceLeDiff, List.length_map, hen, at_row hx]
   refine sC.of hg (hp' i hc9).here rfl ?_
   try simp only [go_sem, Nat.reduceAdd, Nat.reduceEqDiff, Nat.reduceLeDiff, List.length_map, hen, at_row hx]
   refine hK8 _ _ ?_
   conv => enter [5]; simp only [sl1, sl0, sz0, sz1]
   refine AW.cond rfl (fun hc16 => ?_) (fun hc16 => ?_)
   ·skip
    rw [if_pos hc16] at hix
    refine AW.regl false [4] (by rfl) fun K9 hK9 => ?_
    simp only [go_sem, Nat.reduceAdd, Nat.reduceEqDiff, Nat.reduceLeDiff, List.length_map, hen]
    refine hK9 _ _ ?_
    conv => enter [5]; simp only [sl1, sl0, sz0, sz1]
    refine AW.ret ⟨.inr rfl, _, rfl, by simp, ?_⟩
    refine frzI ?_
    exact hix.symm
   ·skip
    rw [if_neg (ne_true_of_eq_false hc16)] at hix
    refine AW.skip ?_
    refine hK6 _ _ ?_
    refine AW.lastl false [8] (by rfl) fun K hK => ?_
    simp only [go_sem, Nat.reduceAdd, Nat.reduceEqDiff, Nat.reduceLeDiff, List.length_map, hen]
    refine hK _ _ fun env' hw => ?_
    simp only [setL_cons, setL_nil, List.set_cons_zero, List.set_cons_succ] at hw
    refine ⟨i + 1, by omega, ⟨by omega, hix⟩, ?_, rfl⟩
    refine hw.trans ?_
    simp [Wk, wrap_succ hc9 hl]
  ·skip
   have hc : i = l.length := by have : ¬ i < l.length := (by simpa using hc9); omega
   refine AW.exit ?_
   refine hK2 _ _ ?_
   refine AW.regl false [4] (by rfl) fun K10 hK10 => ?_
   simp only [go_sem, Nat.reduceAdd, Nat.reduceEqDiff, Nat.reduceLeDiff, List.length_map, hen]
   refine hK10 _ _ ?_
   conv => enter [5]; simp only [sl1, sl0, sz0, sz1]
   refine AW.ret ⟨.inr rfl, _, rfl, by simp, ?_⟩
   refine frzI ?_
   rw [hix, hc, List.drop_length]
   rfl

set_option maxRecDepth 100000 in
theorem containsFunc87 {α : Type} (en : α → AV) (hen : ∀ a, aGet prog 26 (en a).cells = some (en a)) (nl : Bool) (l : List α) (hl : l.length ≤ maxLen) (g : FuncId) (hg : Enters prog g) (caps : List AV) (p : α → Bool) (σ : Sto) (hp : ∀ a ∈ l, APureOn prog Γ g (en a :: caps) σ (.val (.bool (p a)))) : APureOn prog Γ 87 [rowAV 2 nl (l.map en), .fn g caps] σ (.val (.bool (l.any p))) := by
 refine APureOn.of func87 rfl fun τ => ?_
 simp only [ntmps87, List.length_cons, List.length_nil, Nat.reduceAdd, Nat.reduceSub, List.replicate_succ, List.replicate_zero, List.cons_append, List.nil_append]
 have hi := (indexFunc97 en hen nl l hl g hg caps p σ hp).more τ
 generalize σ ++ τ = σ at hi ⊢
 refine AW.regl false [4] (by rfl) fun K1 hK1 => ?_
 simp only [go_sem, Nat.reduceAdd, Nat.reduceEqDiff, Nat.reduceLeDiff]
 refine hK1 _ _ ?_
 conv => enter [5]; simp only [sl1, sl0, sz0, sz1]
 refine AW.regl false [4] (by rfl) fun K2 hK2 => ?_
 simp only [go_sem, Nat.reduceAdd, Nat.reduceEqDiff, Nat.reduceLeDiff]
 refine sC.of en97 (hi).here rfl ?_
 try simp only [go_sem, Nat.reduceAdd, Nat.reduceEqDiff, Nat.reduceLeDiff]
 refine hK2 _ _ ?_
 conv => enter [5]; simp only [sl1, sl0, sz0, sz1]
 refine AW.ret ⟨.inr rfl, _, rfl, by simp, ?_⟩
 refine frzB ?_
 exact idxFrom_nonneg p l 0

set_option maxRecDepth 100000 in
theorem block_calls (f : FileM) (d : Dgm) (b : Blk) (hb : b.ok) : APure prog (GK w G) 73 [f.enc, d.enc, b.enc] (.val (.bool (f.block d b))) := by
 refine APure.of func73 rfl fun σ => ?_
 simp only [ntmps73, List.length_cons, List.length_nil, Nat.reduceAdd, Nat.reduceSub, List.replicate_succ, List.replicate_zero, List.cons_append, List.nil_append]
 obtain ⟨kind, op, sub, bn, bx, by', nl, src⟩ := b
 obtain ⟨fnl, ds⟩ := f
 refine AW.regl false [3, 4, 5, 6] (by rfl) fun K1 hK1 => ?_
 simp only [go_sem, Nat.reduceAdd, Nat.reduceEqDiff, Nat.reduceLeDiff, FileM.enc, Blk.enc, dgm_all, List.length_map]
 refine hK1 _ _ ?_
 conv => enter [5]; simp only [sl1, sl0, sz0, sz1]
 refine AW.seq_k fun K2 hK2 => ?_
 refine AW.regtf false 17 (.val (.bool (decide (kind < 0) || decide (kind > 7)))) (by rfl) ?_ ?_
 ·skip
  cases h12 : (decide (kind < 0))
  ·skip
   simp only [go_sem, Nat.reduceAdd, Nat.reduceEqDiff, Nat.reduceLeDiff, FileM.enc, Blk.enc, dgm_all, List.length_map, h12]
   try simp [upd_at, h12, FileM.enc, Blk.enc, dgm_all, List.length_map]
  ·skip
   simp only [go_sem, Nat.reduceAdd, Nat.reduceEqDiff, Nat.reduceLeDiff, FileM.enc, Blk.enc, dgm_all, List.length_map, h12]
   try simp [upd_at, h12, FileM.enc, Blk.enc, dgm_all, List.length_map]
 conv => enter [5]; simp only [sz0, sz1]
 refine AW.cond rfl (fun hc17 => ?_) (fun hc17 => ?_)
 ·skip
  refine AW.regl false [6] (by rfl) fun K4 hK4 => ?_
  simp only [go_sem, Nat.reduceAdd, Nat.reduceEqDiff, Nat.reduceLeDiff, FileM.enc, Blk.enc, dgm_all, List.length_map]
  refine hK4 _ _ ?_
  conv => enter [5]; simp only [sl1, sl0, sz0, sz1]
  refine AW.ret ⟨.inr rfl, _, rfl, by simp, ?_⟩
  refine frzB ?_
  simp only [FileM.block]
  rw [if_pos hc17]
 ·skip
  have h0 : ¬ kind < 0 ∧ ¬ kind > 7 := by simpa using hc17
  obtain ⟨j, rfl⟩ := Int.eq_ofNat_of_zero_le (by omega : 0 ≤ kind)
  have hj : j < kindsT.length := by simp only [kindsT, List.length_cons, List.length_nil]; omega
  obtain ⟨⟨k1, k2, k3, k4⟩, hk⟩ : ∃ k, k = kindsT[j] := ⟨_, rfl⟩
  have hx : (kindsT.map encK)[j]? = some (encK (k1, k2, k3, k4)) := by rw [hk]; simp [hj]
  refine AW.skip ?_
  refine hK2 _ _ ?_
  refine AW.regl false [7] (by rfl) fun K5 hK5 => ?_
  simp only [go_sem, Nat.reduceAdd, Nat.reduceEqDiff, Nat.reduceLeDiff, FileM.enc, Blk.enc, dgm_all, List.length_map, opnd_k1, at_sl hx, encK]
  refine hK5 _ _ ?_
  conv => enter [5]; simp only [sl1, sl0, sz0, sz1]
  refine AW.regtf false 8 (.val (.bool ((((decide (op ≥ k1) && decide (op ≤ k2)) && decide (bn ≥ 0)) && decide (bn ≤ k3)) && (sub == 0 || (j : Int) == 7)))) (by rfl) ?_ ?_
  ·skip
   cases h27 : (decide (op ≥ k1))
   ·skip
    simp only [go_sem, Nat.reduceAdd, Nat.reduceEqDiff, Nat.reduceLeDiff, FileM.enc, Blk.enc, dgm_all, List.length_map, h27]
    try simp [upd_at, h27, FileM.enc, Blk.enc, dgm_all, List.length_map]
   ·skip
    cases h33 : (decide (op ≤ k2))
    ·skip
     simp only [go_sem, Nat.reduceAdd, Nat.reduceEqDiff, Nat.reduceLeDiff, FileM.enc, Blk.enc, dgm_all, List.length_map, h27, h33]
     try simp [upd_at, h27, h33, FileM.enc, Blk.enc, dgm_all, List.length_map]
    ·skip
     cases h38 : (decide (bn ≥ 0))
     ·skip
      simp only [go_sem, Nat.reduceAdd, Nat.reduceEqDiff, Nat.reduceLeDiff, FileM.enc, Blk.enc, dgm_all, List.length_map, h27, h33, h38]
      try simp [upd_at, h27, h33, h38, FileM.enc, Blk.enc, dgm_all, List.length_map]
     ·skip
      cases h45 : (decide (bn ≤ k3))
      ·skip
       simp only [go_sem, Nat.reduceAdd, Nat.reduceEqDiff, Nat.reduceLeDiff, FileM.enc, Blk.enc, dgm_all, List.length_map, h27, h33, h38, h45]
       try simp [upd_at, h27, h33, h38, h45, FileM.enc, Blk.enc, dgm_all, List.length_map]
      ·skip
       cases h50 : (sub == 0)
       ·skip
        simp only [go_sem, Nat.reduceAdd, Nat.reduceEqDiff, Nat.reduceLeDiff, FileM.enc, Blk.enc, dgm_all, List.length_map, h27, h33, h38, h45, h50]
        try simp [upd_at, h27, h33, h38, h45, h50, FileM.enc, Blk.enc, dgm_all, List.length_map]
       ·skip
        simp only [go_sem, Nat.reduceAdd, Nat.reduceEqDiff, Nat.reduceLeDiff, FileM.enc, Blk.enc, dgm_all, List.length_map, h27, h33, h38, h45, h50]
        try simp [upd_at, h27, h33, h38, h45, h50, FileM.enc, Blk.enc, dgm_all, List.length_map]
  conv => enter [5]; simp only [sz0, sz1]
  generalize hP8 : (((((decide (op ≥ k1) && decide (op ≤ k2)) && decide (bn ≥ 0)) && decide (bn ≤ k3)) && (sub == 0 || (j : Int) == 7))) = P8
  refine AW.seq_k fun K7 hK7 => ?_
  refine AW.regl false [59] (by rfl) fun K8 hK8 => ?_
  simp only [go_sem, Nat.reduceAdd, Nat.reduceEqDiff, Nat.reduceLeDiff, FileM.enc, Blk.enc, dgm_all, List.length_map]
  refine hK8 _ _ ?_
  conv => enter [5]; simp only [sl1, sl0, sz0, sz1]
  refine AW.cond rfl (fun hc59 => ?_) (fun hc59 => ?_)
  ·skip
   refine AW.lasttf false 8 (.val (.bool ((P8 && decide (sub ≥ 0)) && decide (sub < (ds.length : Int))))) (by rfl) ?_ (fun env' hw => ?_)
   ·skip
    cases h8 : (P8)
    ·skip
     simp only [go_sem, Nat.reduceAdd, Nat.reduceEqDiff, Nat.reduceLeDiff, FileM.enc, Blk.enc, dgm_all, List.length_map, h8]
     try simp [upd_at, h8, FileM.enc, Blk.enc, dgm_all, List.length_map]
    ·skip
     cases h64 : (decide (sub ≥ 0))
     ·skip
      simp only [go_sem, Nat.reduceAdd, Nat.reduceEqDiff, Nat.reduceLeDiff, FileM.enc, Blk.enc, dgm_all, List.length_map, h8, h64]
      try simp [upd_at, h8, h64, FileM.enc, Blk.enc, dgm_all, List.length_map]
     ·skip
      simp only [go_sem, Nat.reduceAdd, Nat.reduceEqDiff, Nat.reduceLeDiff, FileM.enc, Blk.enc, dgm_all, List.length_map, h8, h64]
      try simp [upd_at, h8, h64, FileM.enc, Blk.enc, dgm_all, List.length_map]
   simp only [List.set_cons_zero, List.set_cons_succ] at hw
   generalize hP8 : (((P8 && decide (sub ≥ 0)) && decide (sub < (ds.length : Int)))) = P8 at hw ⊢
   refine hK7 _ _ (AW.weaken hw ?_); clear hw
   refine AW.regtf false 9 (.val (.bool ((src.length : Int) == k4 || (k4 == -1 && decide ((src.length : Int) ≤ 16777215))))) (by rfl) ?_ ?_
   ·skip
    cases h79 : ((src.length : Int) == k4)
    ·skip
     cases h83 : (k4 == -1)
     ·skip
      simp only [go_sem, Nat.reduceAdd, Nat.reduceEqDiff, Nat.reduceLeDiff, FileM.enc, Blk.enc, dgm_all, List.length_map, h79, h83]
      try simp [upd_at, h79, h83, FileM.enc, Blk.enc, dgm_all, List.length_map]
     ·skip
      simp only [go_sem, Nat.reduceAdd, Nat.reduceEqDiff, Nat.reduceLeDiff, FileM.enc, Blk.enc, dgm_all, List.length_map, h79, h83]
      try simp [upd_at, h79, h83, FileM.enc, Blk.enc, dgm_all, List.length_map]
    ·skip
     simp only [go_sem, Nat.reduceAdd, Nat.reduceEqDiff, Nat.reduceLeDiff, FileM.enc, Blk.enc, dgm_all, List.length_map, h79]
     try simp [upd_at, h79, FileM.enc, Blk.enc, dgm_all, List.length_map]
   conv => enter [5]; simp only [sz0, sz1]
   generalize hP9 : (((src.length : Int) == k4 || (k4 == -1 && decide ((src.length : Int) ≤ 16777215)))) = P9
   refine AW.regtf false 6 (.val (.bool ((P8 && P9) && !(src.any fun s => !FileM.source ⟨fnl, ds⟩ d s)))) (by rfl) ?_ ?_
   ·skip
    cases h8 : (P8)
    ·skip
     simp only [go_sem, Nat.reduceAdd, Nat.reduceEqDiff, Nat.reduceLeDiff, FileM.enc, Blk.enc, dgm_all, List.length_map, h8]
     try simp [upd_at, h8, FileM.enc, Blk.enc, dgm_all, List.length_map]
    ·skip
     cases h9 : (P9)
     ·skip
      simp only [go_sem, Nat.reduceAdd, Nat.reduceEqDiff, Nat.reduceLeDiff, FileM.enc, Blk.enc, dgm_all, List.length_map, h8, h9]
      try simp [upd_at, h8, h9, FileM.enc, Blk.enc, dgm_all, List.length_map]
     ·skip
      simp only [go_sem, Nat.reduceAdd, Nat.reduceEqDiff, Nat.reduceLeDiff, FileM.enc, Blk.enc, dgm_all, List.length_map, h8, h9]
      refine sC.of en87 (containsFunc87 Src.enc src_get nl src hb 88 en88 _ (fun s => !FileM.source ⟨fnl, ds⟩ d s) _ (fun s _ => block1_calls ⟨fnl, ds⟩ d s (by simp [FileM.enc, AV.cells]) (by simp))).here rfl ?_
      try simp only [go_sem, Nat.reduceAdd, Nat.reduceEqDiff, Nat.reduceLeDiff, FileM.enc, Blk.enc, dgm_all, List.length_map, h8, h9]
      try simp [upd_at, h8, h9, FileM.enc, Blk.enc, dgm_all, List.length_map]
   conv => enter [5]; simp only [sz0, sz1]
   refine AW.ret ⟨.inr rfl, _, rfl, by simp, ?_⟩
   refine frzB ?_
   subst_vars
   simp only [FileM.block]
   rw [if_neg (ne_true_of_eq_false hc17)]
   simp only [Int.toNat_natCast, List.getElem?_eq_getElem hj, ← hk]
   rw [if_pos hc59]
  ·skip
   refine AW.skip ?_
   refine hK7 _ _ ?_
   refine AW.regtf false 9 (.val (.bool ((src.length : Int) == k4 || (k4 == -1 && decide ((src.length : Int) ≤ 16777215))))) (by rfl) ?_ ?_
   ·skip
    cases h79 : ((src.length : Int) == k4)
    ·skip
     cases h83 : (k4 == -1)
     ·skip
      simp only [go_sem, Nat.reduceAdd, Nat.reduceEqDiff, Nat.reduceLeDiff, FileM.enc, Blk.enc, dgm_all, List.length_map, h79, h83]
      try simp [upd_at, h79, h83, FileM.enc, Blk.enc, dgm_all, List.length_map]
     ·skip
      simp only [go_sem, Nat.reduceAdd, Nat.reduceEqDiff, Nat.reduceLeDiff, FileM.enc, Blk.enc, dgm_all, List.length_map, h79, h83]
      try simp [upd_at, h79, h83, FileM.enc, Blk.enc, dgm_all, List.length_map]
    ·skip
     simp only [go_sem, Nat.reduceAdd, Nat.reduceEqDiff, Nat.reduceLeDiff, FileM.enc, Blk.enc, dgm_all, List.length_map, h79]
     try simp [upd_at, h79, FileM.enc, Blk.enc, dgm_all, List.length_map]
   conv => enter [5]; simp only [sz0, sz1]
   generalize hP9 : (((src.length : Int) == k4 || (k4 == -1 && decide ((src.length : Int) ≤ 16777215)))) = P9
   refine AW.regtf false 6 (.val (.bool ((P8 && P9) && !(src.any fun s => !FileM.source ⟨fnl, ds⟩ d s)))) (by rfl) ?_ ?_
   ·skip
    cases h8 : (P8)
    ·skip
     simp only [go_sem, Nat.reduceAdd, Nat.reduceEqDiff, Nat.reduceLeDiff, FileM.enc, Blk.enc, dgm_all, List.length_map, h8]
     try simp [upd_at, h8, FileM.enc, Blk.enc, dgm_all, List.length_map]
    ·skip
     cases h9 : (P9)
     ·skip
      simp only [go_sem, Nat.reduceAdd, Nat.reduceEqDiff, Nat.reduceLeDiff, FileM.enc, Blk.enc, dgm_all, List.length_map, h8, h9]
      try simp [upd_at, h8, h9, FileM.enc, Blk.enc, dgm_all, List.length_map]
     ·skip
      simp only [go_sem, Nat.reduceAdd, Nat.reduceEqDiff, Nat.reduceLeDiff, FileM.enc, Blk.enc, dgm_all, List.length_map, h8, h9]
      refine sC.of en87 (containsFunc87 Src.enc src_get nl src hb 88 en88 _ (fun s => !FileM.source ⟨fnl, ds⟩ d s) _ (fun s _ => block1_calls ⟨fnl, ds⟩ d s (by simp [FileM.enc, AV.cells]) (by simp))).here rfl ?_
      try simp only [go_sem, Nat.reduceAdd, Nat.reduceEqDiff, Nat.reduceLeDiff, FileM.enc, Blk.enc, dgm_all, List.length_map, h8, h9]
      try simp [upd_at, h8, h9, FileM.enc, Blk.enc, dgm_all, List.length_map]
   conv => enter [5]; simp only [sz0, sz1]
   refine AW.ret ⟨.inr rfl, _, rfl, by simp, ?_⟩
   refine frzB ?_
   subst_vars
   simp only [FileM.block]
   rw [if_neg (ne_true_of_eq_false hc17)]
   simp only [Int.toNat_natCast, List.getElem?_eq_getElem hj, ← hk]
   rw [if_neg (ne_true_of_eq_false hc59)]

set_option maxRecDepth 100000 in
theorem indexFunc85 {α : Type} (en : α → AV) (hen : ∀ a, aGet prog 24 (en a).cells = some (en a)) (nl : Bool) (l : List α) (hl : l.length ≤ maxLen) (g : FuncId) (hg : Enters prog g) (caps : List AV) (p : α → Bool) (σ : Sto) (hp : ∀ a ∈ l, APureOn prog Γ g (en a :: caps) σ (.val (.bool (p a)))) : APureOn prog Γ 85 [rowAV 2 nl (l.map en), .fn g caps] σ (.val (.int .i64 (idxFrom p 0 l))) := by
 refine APureOn.of func85 rfl fun τ => ?_
 simp only [ntmps85, List.length_cons, List.length_nil, Nat.reduceAdd, Nat.reduceSub, List.replicate_succ, List.replicate_zero, List.cons_append, List.nil_append]
 have hp' : ∀ (i : Nat) (h : i < l.length), APureOn prog Γ g (en l[i] :: caps) (σ ++ τ) (.val (.bool (p l[i]))) := fun i h => (hp _ (List.getElem_mem h)).more τ
 generalize σ ++ τ = σ at hp' ⊢
 refine AW.regl false [4] (by rfl) fun K1 hK1 => ?_
 simp only [go_sem, Nat.reduceAdd, Nat.reduceEqDiff, Nat.reduceLeDiff, List.length_map, hen]
 refine hK1 _ _ ?_
 conv => enter [5]; simp only [sl1, sl0, sz0, sz1]
 refine AW.seq_k fun K2 hK2 => ?_
 refine AW.regl false [7, 8] (by rfl) fun K3 hK3 => ?_
 simp only [go_sem, Nat.reduceAdd, Nat.reduceEqDiff, Nat.reduceLeDiff, List.length_map, hen]
 refine hK3 _ _ ?_
 conv => enter [5]; simp only [sl1, sl0, sz0, sz1]
 refine AW.block ?_
 refine AW.loop_wk (α := Nat) (fun i => [(rowAV 2 nl (l.map en)), (.fn g caps), .any, .any, .any, .any, .any, (.val (.int .i64 (l.length : Nat))), (.val (.int .i64 (i : Nat))), .any, .any, .any, .any, .any, .any, .any, .any, .any, .any]) (fun i => σ) (fun i => l.length - i) (fun i => i ≤ l.length ∧ idxFrom p 0 l = idxFrom p i (l.drop i)) 0 ?_ ?_
 ·exact ⟨⟨Nat.zero_le _, rfl⟩, by simp [Wk], rfl⟩
 ·rintro i ⟨hi, hix⟩
  refine AW.regl false [9] (by rfl) fun K4 hK4 => ?_
  simp only [go_sem, Nat.reduceAdd, Nat.reduceEqDiff, Nat.reduceLeDiff, List.length_map, hen]
  refine hK4 _ _ ?_
  conv => enter [5]; simp only [sl1, sl0, sz0, sz1]
  refine AW.seq_k fun K5 hK5 => ?_
  refine AW.cond rfl (fun hc9 => ?_) (fun hc9 => ?_)
  ·skip
   have hc9 : i < l.length := by simpa using hc9
   have hx : (l.map en)[i]? = some (en l[i]) := by simp [hc9]
   rw [idxFrom_drop p l i hc9] at hix
   refine AW.skip ?_
   refine hK5 _ _ ?_
   refine AW.seq_k fun K6 hK6 => ?_
   refine AW.block ?_
   refine AW.regl false [5] (by rfl) fun K7 hK7 => ?_
   simp only [go_sem, Nat.reduceAdd, Nat.reduceEqDiff, Nat.reduceLeDiff, List.length_map, hen]
   refine hK7 _ _ ?_
   conv => enter [5]; simp only [sl1, sl0, sz0, sz1]
   refine AW.regl false [16] (by rfl) fun K8 hK8 => ?_
   simp only [go_sem, Nat.reduceAdd, Nat.reduceEqDiff, Nat.reduceLeDiff, List.length_map, hen, at_row hx]
   refine sC.of hg (hp' i hc9).here rfl ?_
   try simp only [go_sem, Nat.reduceAdd, Nat.reduceEqDiff, Nat.reduceLeDiff, List.length_map, hen, at_row hx]
   refine hK8 _ _ ?_
   conv => enter [5]; simp only [sl1, sl0, sz0, sz1]
   refine AW.cond rfl (fun hc16 => ?_) (fun hc16 => ?_)
   ·skip
    rw [if_pos hc16] at hix
    refine AW.regl false [4] (by rfl) fun K9 hK9 => ?_
    simp only [go_sem, Nat.reduceAdd, Nat.reduceEqDiff, Nat.reduceLeDiff, List.length_map, hen]
    refine hK9 _ _ ?_
    conv => enter [5]; simp only [sl1, sl0, sz0, sz1]
    refine AW.ret ⟨.inr rfl, _, rfl, by simp, ?_⟩
    refine frzI ?_
    exact hix.symm
   ·skip
    rw [if_neg (ne_true_of_eq_false hc16)] at hix
    refine AW.skip ?_
    refine hK6 _ _ ?_
    refine AW.lastl false [8] (by rfl) fun K hK => ?_
    simp only [go_sem, Nat.reduceAdd, Nat.reduceEqDiff, Nat.reduceLeDiff, List.length_map, hen]
    refine hK _ _ fun env' hw => ?_
    simp only [setL_cons, setL_nil, List.set_cons_zero, List.set_cons_succ] at hw
    refine ⟨i + 1, by omega, ⟨by omega, hix⟩, ?_, rfl⟩
    refine hw.trans ?_
    simp [Wk, wrap_succ hc9 hl]
  ·skip
   have hc : i = l.length := by have : ¬ i < l.length := (by simpa using hc9); omega
   refine AW.exit ?_
   refine hK2 _ _ ?_
   refine AW.regl false [4] (by rfl) fun K10 hK10 => ?_
   simp only [go_sem, Nat.reduceAdd, Nat.reduceEqDiff, Nat.reduceLeDiff, List.length_map, hen]
   refine hK10 _ _ ?_
   conv => enter [5]; simp only [sl1, sl0, sz0, sz1]
   refine AW.ret ⟨.inr rfl, _, rfl, by simp, ?_⟩
   refine frzI ?_
   rw [hix, hc, List.drop_length]
   rfl

set_option maxRecDepth 100000 in
theorem containsFunc66 {α : Type} (en : α → AV) (hen : ∀ a, aGet prog 24 (en a).cells = some (en a)) (nl : Bool) (l : List α) (hl : l.length ≤ maxLen) (g : FuncId) (hg : Enters prog g) (caps : List AV) (p : α → Bool) (σ : Sto) (hp : ∀ a ∈ l, APureOn prog Γ g (en a :: caps) σ (.val (.bool (p a)))) : APureOn prog Γ 66 [rowAV 2 nl (l.map en), .fn g caps] σ (.val (.bool (l.any p))) := by
 refine APureOn.of func66 rfl fun τ => ?_
 simp only [ntmps66, List.length_cons, List.length_nil, Nat.reduceAdd, Nat.reduceSub, List.replicate_succ, List.replicate_zero, List.cons_append, List.nil_append]
 have hi := (indexFunc85 en hen nl l hl g hg caps p σ hp).more τ
 generalize σ ++ τ = σ at hi ⊢
 refine AW.regl false [4] (by rfl) fun K1 hK1 => ?_
 simp only [go_sem, Nat.reduceAdd, Nat.reduceEqDiff, Nat.reduceLeDiff]
 refine hK1 _ _ ?_
 conv => enter [5]; simp only [sl1, sl0, sz0, sz1]
 refine AW.regl false [4] (by rfl) fun K2 hK2 => ?_
 simp only [go_sem, Nat.reduceAdd, Nat.reduceEqDiff, Nat.reduceLeDiff]
 refine sC.of en85 (hi).here rfl ?_
 try simp only [go_sem, Nat.reduceAdd, Nat.reduceEqDiff, Nat.reduceLeDiff]
 refine hK2 _ _ ?_
 conv => enter [5]; simp only [sl1, sl0, sz0, sz1]
 refine AW.ret ⟨.inr rfl, _, rfl, by simp, ?_⟩
 refine frzB ?_
 exact idxFrom_nonneg p l 0

set_option maxRecDepth 100000 in
theorem indexFunc86 {α : Type} (en : α → AV) (hen : ∀ a, aGet prog 28 (en a).cells = some (en a)) (nl : Bool) (l : List α) (hl : l.length ≤ maxLen) (g : FuncId) (hg : Enters prog g) (caps : List AV) (p : α → Bool) (σ : Sto) (hp : ∀ a ∈ l, APureOn prog Γ g (en a :: caps) σ (.val (.bool (p a)))) : APureOn prog Γ 86 [rowAV 4 nl (l.map en), .fn g caps] σ (.val (.int .i64 (idxFrom p 0 l))) := by
 refine APureOn.of func86 rfl fun τ => ?_
 simp only [ntmps86, List.length_cons, List.length_nil, Nat.reduceAdd, Nat.reduceSub, List.replicate_succ, List.replicate_zero, List.cons_append, List.nil_append]
 have hp' : ∀ (i : Nat) (h : i < l.length), APureOn prog Γ g (en l[i] :: caps) (σ ++ τ) (.val (.bool (p l[i]))) := fun i h => (hp _ (List.getElem_mem h)).more τ
 generalize σ ++ τ = σ at hp' ⊢
 refine AW.regl false [4] (by rfl) fun K1 hK1 => ?_
 simp only [go_sem, Nat.reduceAdd, Nat.reduceEqDiff, Nat.reduceLeDiff, List.length_map, hen]
 refine hK1 _ _ ?_
 conv => enter [5]; simp only [sl1, sl0, sz0, sz1]
 refine AW.seq_k fun K2 hK2 => ?_
 refine AW.regl false [7, 8] (by rfl) fun K3 hK3 => ?_
 simp only [go_sem, Nat.reduceAdd, Nat.reduceEqDiff, Nat.reduceLeDiff, List.length_map, hen]
 refine hK3 _ _ ?_
 conv => enter [5]; simp only [sl1, sl0, sz0, sz1]
 refine AW.block ?_
 refine AW.loop_wk (α := Nat) (fun i => [(rowAV 4 nl (l.map en)), (.fn g caps), .any, .any, .any, .any, .any, (.val (.int .i64 (l.length : Nat))), (.val (.int .i64 (i : Nat))), .any, .any, .any, .any, .any, .any, .any, .any, .any, .any]) (fun i => σ) (fun i => l.length - i) (fun i => i ≤ l.length ∧ idxFrom p 0 l = idxFrom p i (l.drop i)) 0 ?_ ?_
 ·exact ⟨⟨Nat.zero_le _, rfl⟩, by simp [Wk], rfl⟩
 ·rintro i ⟨hi, hix⟩
  refine AW.regl false [9] (by rfl) fun K4 hK4 => ?_
  simp only [go_sem, Nat.reduceAdd, Nat.reduceEqDiff, Nat.reduceLeDiff, List.length_map, hen]
  refine hK4 _ _ ?_
  conv => enter [5]; simp only [sl1, sl0, sz0, sz1]
  refine AW.seq_k fun K5 hK5 => ?_
  refine AW.cond rfl (fun hc9 => ?_) (fun hc9 => ?_)
  ·skip
   have hc9 : i < l.length := by simpa using hc9
   have hx : (l.map en)[i]? = some (en l[i]) := by simp [hc9]
   rw [idxFrom_drop p l i hc9] at hix
   refine AW.skip ?_
   refine hK5 _ _ ?_
   refine AW.seq_k fun K6 hK6 => ?_
   refine AW.block ?_
   refine AW.regl false [5] (by rfl) fun K7 hK7 => ?_
   simp only [go_sem, Nat.reduceAdd, Nat.reduceEqDiff, Nat.reduceLeDiff, List.length_map, hen]
   refine hK7 _ _ ?_
   conv => enter [5]; simp only [sl1, sl0, sz0, sz1]
   refine AW.regl false [16] (by rfl) fun K8 hK8 => ?_
   simp only [go_sem, Nat.reduceAdd, Nat.reduceEqDiff, Nat.reduceLeDiff, List.length_map, hen, at_row hx]
   refine sC.of hg (hp' i hc9).here rfl ?_
   try simp only [go_sem, Nat.reduceAdd, Nat.reduceEqDiff, Nat.reduceLeDiff, List.length_map, hen, at_row hx]
   refine hK8 _ _ ?_
   conv => enter [5]; simp only [sl1, sl0, sz0, sz1]
   refine AW.cond rfl (fun hc16 => ?_) (fun hc16 => ?_)
   ·skip
    rw [if_pos hc16] at hix
    refine AW.regl false [4] (by rfl) fun K9 hK9 => ?_
    simp only [go_sem, Nat.reduceAdd, Nat.reduceEqDiff, Nat.reduceLeDiff, List.length_map, hen]
    refine hK9 _ _ ?_
    conv => enter [5]; simp only [sl1, sl0, sz0, sz1]
    refine AW.ret ⟨.inr rfl, _, rfl, by simp, ?_⟩
    refine frzI ?_
    exact hix.symm
   ·skip
    rw [if_neg (ne_true_of_eq_false hc16)] at hix
    refine AW.skip ?_
    refine hK6 _ _ ?_
    refine AW.lastl false [8] (by rfl) fun K hK => ?_
    simp only [go_sem, Nat.reduceAdd, Nat.reduceEqDiff, Nat.reduceLeDiff, List.length_map, hen]
    refine hK _ _ fun env' hw => ?_
    simp only [setL_cons, setL_nil, List.set_cons_zero, List.set_cons_succ] at hw
    refine ⟨i + 1, by omega, ⟨by omega, hix⟩, ?_, rfl⟩
    refine hw.trans ?_
    simp [Wk, wrap_succ hc9 hl]
  ·skip
   have hc : i = l.length := by have : ¬ i < l.length := (by simpa using hc9); omega
   refine AW.exit ?_
   refine hK2 _ _ ?_
   refine AW.regl false [4] (by rfl) fun K10 hK10 => ?_
   simp only [go_sem, Nat.reduceAdd, Nat.reduceEqDiff, Nat.reduceLeDiff, List.length_map, hen]
   refine hK10 _ _ ?_
   conv => enter [5]; simp only [sl1, sl0, sz0, sz1]
   refine AW.ret ⟨.inr rfl, _, rfl, by simp, ?_⟩
   refine frzI ?_
   rw [hix, hc, List.drop_length]
   rfl

set_option maxRecDepth 100000 in
theorem containsFunc69 {α : Type} (en : α → AV) (hen : ∀ a, aGet prog 28 (en a).cells = some (en a)) (nl : Bool) (l : List α) (hl : l.length ≤ maxLen) (g : FuncId) (hg : Enters prog g) (caps : List AV) (p : α → Bool) (σ : Sto) (hp : ∀ a ∈ l, APureOn prog Γ g (en a :: caps) σ (.val (.bool (p a)))) : APureOn prog Γ 69 [rowAV 4 nl (l.map en), .fn g caps] σ (.val (.bool (l.any p))) := by
 refine APureOn.of func69 rfl fun τ => ?_
 simp only [ntmps69, List.length_cons, List.length_nil, Nat.reduceAdd, Nat.reduceSub, List.replicate_succ, List.replicate_zero, List.cons_append, List.nil_append]
 have hi := (indexFunc86 en hen nl l hl g hg caps p σ hp).more τ
 generalize σ ++ τ = σ at hi ⊢
 refine AW.regl false [4] (by rfl) fun K1 hK1 => ?_
 simp only [go_sem, Nat.reduceAdd, Nat.reduceEqDiff, Nat.reduceLeDiff]
 refine hK1 _ _ ?_
 conv => enter [5]; simp only [sl1, sl0, sz0, sz1]
 refine AW.regl false [4] (by rfl) fun K2 hK2 => ?_
 simp only [go_sem, Nat.reduceAdd, Nat.reduceEqDiff, Nat.reduceLeDiff]
 refine sC.of en86 (hi).here rfl ?_
 try simp only [go_sem, Nat.reduceAdd, Nat.reduceEqDiff, Nat.reduceLeDiff]
 refine hK2 _ _ ?_
 conv => enter [5]; simp only [sl1, sl0, sz0, sz1]
 refine AW.ret ⟨.inr rfl, _, rfl, by simp, ?_⟩
 refine frzB ?_
 exact idxFrom_nonneg p l 0

set_option maxRecDepth 100000 in
theorem indexFunc77 {α : Type} (en : α → AV) (hen : ∀ a, aGet prog 32 (en a).cells = some (en a)) (nl : Bool) (l : List α) (hl : l.length ≤ maxLen) (g : FuncId) (hg : Enters prog g) (caps : List AV) (p : α → Bool) (σ : Sto) (hp : ∀ a ∈ l, APureOn prog Γ g (en a :: caps) σ (.val (.bool (p a)))) : APureOn prog Γ 77 [rowAV 7 nl (l.map en), .fn g caps] σ (.val (.int .i64 (idxFrom p 0 l))) := by
 refine APureOn.of func77 rfl fun τ => ?_
 simp only [ntmps77, List.length_cons, List.length_nil, Nat.reduceAdd, Nat.reduceSub, List.replicate_succ, List.replicate_zero, List.cons_append, List.nil_append]
 have hp' : ∀ (i : Nat) (h : i < l.length), APureOn prog Γ g (en l[i] :: caps) (σ ++ τ) (.val (.bool (p l[i]))) := fun i h => (hp _ (List.getElem_mem h)).more τ
 generalize σ ++ τ = σ at hp' ⊢
 refine AW.regl false [4] (by rfl) fun K1 hK1 => ?_
 simp only [go_sem, Nat.reduceAdd, Nat.reduceEqDiff, Nat.reduceLeDiff, List.length_map, hen]
 refine hK1 _ _ ?_
 conv => enter [5]; simp only [sl1, sl0, sz0, sz1]
 refine AW.seq_k fun K2 hK2 => ?_
 refine AW.regl false [7, 8] (by rfl) fun K3 hK3 => ?_
 simp only [go_sem, Nat.reduceAdd, Nat.reduceEqDiff, Nat.reduceLeDiff, List.length_map, hen]
 refine hK3 _ _ ?_
 conv => enter [5]; simp only [sl1, sl0, sz0, sz1]
 refine AW.block ?_
 refine AW.loop_wk (α := Nat) (fun i => [(rowAV 7 nl (l.map en)), (.fn g caps), .any, .any, .any, .any, .any, (.val (.int .i64 (l.length : Nat))), (.val (.int .i64 (i : Nat))), .any, .any, .any, .any, .any, .any, .any, .any, .any, .any]) (fun i => σ) (fun i => l.length - i) (fun i => i ≤ l.length ∧ idxFrom p 0 l = idxFrom p i (l.drop i)) 0 ?_ ?_
 ·exact ⟨⟨Nat.zero_le _, rfl⟩, by simp [Wk], rfl⟩
 ·rintro i ⟨hi, hix⟩
  refine AW.regl false [9] (by rfl) fun K4 hK4 => ?_
  simp only [go_sem, Nat.reduceAdd, Nat.reduceEqDiff, Nat.reduceLeDiff, List.length_map, hen]
  refine hK4 _ _ ?_
  conv => enter [5]; simp only [sl1, sl0, sz0, sz1]
  refine AW.seq_k fun K5 hK5 => ?_
  refine AW.cond rfl (fun hc9 => ?_) (fun hc9 => ?_)
  ·skip
   have hc9 : i < l.length := by simpa using hc9
   have hx : (l.map en)[i]? = some (en l[i]) := by simp [hc9]
   rw [idxFrom_drop p l i hc9] at hix
   refine AW.skip ?_
   refine hK5 _ _ ?_
   refine AW.seq_k fun K6 hK6 => ?_
   refine AW.block ?_
   refine AW.regl false [5] (by rfl) fun K7 hK7 => ?_
   simp only [go_sem, Nat.reduceAdd, Nat.reduceEqDiff, Nat.reduceLeDiff, List.length_map, hen]
   refine hK7 _ _ ?_
   conv => enter [5]; simp only [sl1, sl0, sz0, sz1]
   refine AW.regl false [16] (by rfl) fun K8 hK8 => ?_
   simp only [go_sem, Nat.reduceAdd, Nat.reduceEqDiff, Nat.reduceLeDiff, List.length_map, hen, at_row hx]
   refine sC.of hg (hp' i hc9).here rfl ?_
   try simp only [go_sem, Nat.reduceAdd, Nat.reduceEqDiff, Nat.reduceLeDiff, List.length_map, hen, at_row hx]
   refine hK8 _ _ ?_
   conv => enter [5]; simp only [sl1, sl0, sz0, sz1]
   refine AW.cond rfl (fun hc16 => ?_) (fun hc16 => ?_)
   ·skip
    rw [if_pos hc16] at hix
    refine AW.regl false [4] (by rfl) fun K9 hK9 => ?_
    simp only [go_sem, Nat.reduceAdd, Nat.reduceEqDiff, Nat.reduceLeDiff, List.length_map, hen]
    refine hK9 _ _ ?_
    conv => enter [5]; simp only [sl1, sl0, sz0, sz1]
    refine AW.ret ⟨.inr rfl, _, rfl, by simp, ?_⟩
    refine frzI ?_
    exact hix.symm
   ·skip
    rw [if_neg (ne_true_of_eq_false hc16)] at hix
    refine AW.skip ?_
    refine hK6 _ _ ?_
    refine AW.lastl false [8] (by rfl) fun K hK => ?_
    simp only [go_sem, Nat.reduceAdd, Nat.reduceEqDiff, Nat.reduceLeDiff, List.length_map, hen]
    refine hK _ _ fun env' hw => ?_
    simp only [setL_cons, setL_nil, List.set_cons_zero, List.set_cons_succ] at hw
    refine ⟨i + 1, by omega, ⟨by omega, hix⟩, ?_, rfl⟩
    refine hw.trans ?_
    simp [Wk, wrap_succ hc9 hl]
  ·skip
   have hc : i = l.length := by have : ¬ i < l.length := (by simpa using hc9); omega
   refine AW.exit ?_
   refine hK2 _ _ ?_
   refine AW.regl false [4] (by rfl) fun K10 hK10 => ?_
   simp only [go_sem, Nat.reduceAdd, Nat.reduceEqDiff, Nat.reduceLeDiff, List.length_map, hen]
   refine hK10 _ _ ?_
   conv => enter [5]; simp only [sl1, sl0, sz0, sz1]
   refine AW.ret ⟨.inr rfl, _, rfl, by simp, ?_⟩
   refine frzI ?_
   rw [hix, hc, List.drop_length]
   rfl

set_option maxRecDepth 100000 in
theorem containsFunc51 {α : Type} (en : α → AV) (hen : ∀ a, aGet prog 32 (en a).cells = some (en a)) (nl : Bool) (l : List α) (hl : l.length ≤ maxLen) (g : FuncId) (hg : Enters prog g) (caps : List AV) (p : α → Bool) (σ : Sto) (hp : ∀ a ∈ l, APureOn prog Γ g (en a :: caps) σ (.val (.bool (p a)))) : APureOn prog Γ 51 [rowAV 7 nl (l.map en), .fn g caps] σ (.val (.bool (l.any p))) := by
 refine APureOn.of func51 rfl fun τ => ?_
 simp only [ntmps51, List.length_cons, List.length_nil, Nat.reduceAdd, Nat.reduceSub, List.replicate_succ, List.replicate_zero, List.cons_append, List.nil_append]
 have hi := (indexFunc77 en hen nl l hl g hg caps p σ hp).more τ
 generalize σ ++ τ = σ at hi ⊢
 refine AW.regl false [4] (by rfl) fun K1 hK1 => ?_
 simp only [go_sem, Nat.reduceAdd, Nat.reduceEqDiff, Nat.reduceLeDiff]
 refine hK1 _ _ ?_
 conv => enter [5]; simp only [sl1, sl0, sz0, sz1]
 refine AW.regl false [4] (by rfl) fun K2 hK2 => ?_
 simp only [go_sem, Nat.reduceAdd, Nat.reduceEqDiff, Nat.reduceLeDiff]
 refine sC.of en77 (hi).here rfl ?_
 try simp only [go_sem, Nat.reduceAdd, Nat.reduceEqDiff, Nat.reduceLeDiff]
 refine hK2 _ _ ?_
 conv => enter [5]; simp only [sl1, sl0, sz0, sz1]
 refine AW.ret ⟨.inr rfl, _, rfl, by simp, ?_⟩
 refine frzB ?_
 exact idxFrom_nonneg p l 0

set_option maxRecDepth 100000 in
theorem indexFunc65 {α : Type} (en : α → AV) (hen : ∀ a, aGet prog 36 (en a).cells = some (en a)) (nl : Bool) (l : List α) (hl : l.length ≤ maxLen) (g : FuncId) (hg : Enters prog g) (caps : List AV) (p : α → Bool) (σ : Sto) (hp : ∀ a ∈ l, APureOn prog Γ g (en a :: caps) σ (.val (.bool (p a)))) : APureOn prog Γ 65 [rowAV 4 nl (l.map en), .fn g caps] σ (.val (.int .i64 (idxFrom p 0 l))) := by
 refine APureOn.of func65 rfl fun τ => ?_
 simp only [ntmps65, List.length_cons, List.length_nil, Nat.reduceAdd, Nat.reduceSub, List.replicate_succ, List.replicate_zero, List.cons_append, List.nil_append]
 have hp' : ∀ (i : Nat) (h : i < l.length), APureOn prog Γ g (en l[i] :: caps) (σ ++ τ) (.val (.bool (p l[i]))) := fun i h => (hp _ (List.getElem_mem h)).more τ
 generalize σ ++ τ = σ at hp' ⊢
 refine AW.regl false [4] (by rfl) fun K1 hK1 => ?_
 simp only [go_sem, Nat.reduceAdd, Nat.reduceEqDiff, Nat.reduceLeDiff, List.length_map, hen]
 refine hK1 _ _ ?_
 conv => enter [5]; simp only [sl1, sl0, sz0, sz1]
 refine AW.seq_k fun K2 hK2 => ?_
 refine AW.regl false [7, 8] (by rfl) fun K3 hK3 => ?_
 simp only [go_sem, Nat.reduceAdd, Nat.reduceEqDiff, Nat.reduceLeDiff, List.length_map, hen]
 refine hK3 _ _ ?_
 conv => enter [5]; simp only [sl1, sl0, sz0, sz1]
 refine AW.block ?_
 refine AW.loop_wk (α := Nat) (fun i => [(rowAV 4 nl (l.map en)), (.fn g caps), .any, .any, .any, .any, .any, (.val (.int .i64 (l.length : Nat))), (.val (.int .i64 (i : Nat))), .any, .any, .any, .any, .any, .any, .any, .any, .any, .any]) (fun i => σ) (fun i => l.length - i) (fun i => i ≤ l.length ∧ idxFrom p 0 l = idxFrom p i (l.drop i)) 0 ?_ ?_
 ·exact ⟨⟨Nat.zero_le _, rfl⟩, by simp [Wk], rfl⟩
 ·rintro i ⟨hi, hix⟩
  refine AW.regl false [9] (by rfl) fun K4 hK4 => ?_
  simp only [go_sem, Nat.reduceAdd, Nat.reduceEqDiff, Nat.reduceLeDiff, List.length_map, hen]
  refine hK4 _ _ ?_
  conv => enter [5]; simp only [sl1, sl0, sz0, sz1]
  refine AW.seq_k fun K5 hK5 => ?_
  refine AW.cond rfl (fun hc9 => ?_) (fun hc9 => ?_)
  ·skip
   have hc9 : i < l.length := by simpa using hc9
   have hx : (l.map en)[i]? = some (en l[i]) := by simp [hc9]
   rw [idxFrom_drop p l i hc9] at hix
   refine AW.skip ?_
   refine hK5 _ _ ?_
   refine AW.seq_k fun K6 hK6 => ?_
   refine AW.block ?_
   refine AW.regl false [5] (by rfl) fun K7 hK7 => ?_
   simp only [go_sem, Nat.reduceAdd, Nat.reduceEqDiff, Nat.reduceLeDiff, List.length_map, hen]
   refine hK7 _ _ ?_
   conv => enter [5]; simp only [sl1, sl0, sz0, sz1]
   refine AW.regl false [16] (by rfl) fun K8 hK8 => ?_
   simp only [go_sem, Nat.reduceAdd, Nat.reduceEqDiff, Nat.reduceLeDiff, List.length_map, hen, at_row hx]
   refine sC.of hg (hp' i hc9).here rfl ?_
   try simp only [go_sem, Nat.reduceAdd, Nat.reduceEqDiff, Nat.reduceLeDiff, List.length_map, hen, at_row hx]
   refine hK8 _ _ ?_
   conv => enter [5]; simp only [sl1, sl0, sz0, sz1]
   refine AW.cond rfl (fun hc16 => ?_) (fun hc16 => ?_)
   ·skip
    rw [if_pos hc16] at hix
    refine AW.regl false [4] (by rfl) fun K9 hK9 => ?_
    simp only [go_sem, Nat.reduceAdd, Nat.reduceEqDiff, Nat.reduceLeDiff, List.length_map, hen]
    refine hK9 _ _ ?_
    conv => enter [5]; simp only [sl1, sl0, sz0, sz1]
    refine AW.ret ⟨.inr rfl, _, rfl, by simp, ?_⟩
    refine frzI ?_
    exact hix.symm
   ·skip
    rw [if_neg (ne_true_of_eq_false hc16)] at hix
    refine AW.skip ?_
    refine hK6 _ _ ?_
    refine AW.lastl false [8] (by rfl) fun K hK => ?_
    simp only [go_sem, Nat.reduceAdd, Nat.reduceEqDiff, Nat.reduceLeDiff, List.length_map, hen]
    refine hK _ _ fun env' hw => ?_
    simp only [setL_cons, setL_nil, List.set_cons_zero, List.set_cons_succ] at hw
    refine ⟨i + 1, by omega, ⟨by omega, hix⟩, ?_, rfl⟩
    refine hw.trans ?_
    simp [Wk, wrap_succ hc9 hl]
  ·skip
   have hc : i = l.length := by have : ¬ i < l.length := (by simpa using hc9); omega
   refine AW.exit ?_
   refine hK2 _ _ ?_
   refine AW.regl false [4] (by rfl) fun K10 hK10 => ?_
   simp only [go_sem, Nat.reduceAdd, Nat.reduceEqDiff, Nat.reduceLeDiff, List.length_map, hen]
   refine hK10 _ _ ?_
   conv => enter [5]; simp only [sl1, sl0, sz0, sz1]
   refine AW.ret ⟨.inr rfl, _, rfl, by simp, ?_⟩
   refine frzI ?_
   rw [hix, hc, List.drop_length]
   rfl

set_option maxRecDepth 100000 in
theorem containsFunc45 {α : Type} (en : α → AV) (hen : ∀ a, aGet prog 36 (en a).cells = some (en a)) (nl : Bool) (l : List α) (hl : l.length ≤ maxLen) (g : FuncId) (hg : Enters prog g) (caps : List AV) (p : α → Bool) (σ : Sto) (hp : ∀ a ∈ l, APureOn prog Γ g (en a :: caps) σ (.val (.bool (p a)))) : APureOn prog Γ 45 [rowAV 4 nl (l.map en), .fn g caps] σ (.val (.bool (l.any p))) := by
 refine APureOn.of func45 rfl fun τ => ?_
 simp only [ntmps45, List.length_cons, List.length_nil, Nat.reduceAdd, Nat.reduceSub, List.replicate_succ, List.replicate_zero, List.cons_append, List.nil_append]
 have hi := (indexFunc65 en hen nl l hl g hg caps p σ hp).more τ
 generalize σ ++ τ = σ at hi ⊢
 refine AW.regl false [4] (by rfl) fun K1 hK1 => ?_
 simp only [go_sem, Nat.reduceAdd, Nat.reduceEqDiff, Nat.reduceLeDiff]
 refine hK1 _ _ ?_
 conv => enter [5]; simp only [sl1, sl0, sz0, sz1]
 refine AW.regl false [4] (by rfl) fun K2 hK2 => ?_
 simp only [go_sem, Nat.reduceAdd, Nat.reduceEqDiff, Nat.reduceLeDiff]
 refine sC.of en65 (hi).here rfl ?_
 try simp only [go_sem, Nat.reduceAdd, Nat.reduceEqDiff, Nat.reduceLeDiff]
 refine hK2 _ _ ?_
 conv => enter [5]; simp only [sl1, sl0, sz0, sz1]
 refine AW.ret ⟨.inr rfl, _, rfl, by simp, ?_⟩
 refine frzB ?_
 exact idxFrom_nonneg p l 0

set_option maxRecDepth 100000 in
theorem portfn_calls (p : PortM) : APure prog Γ 67 [p.enc] (.val (.bool (!p.right))) := by
 refine APure.of func67 rfl fun σ => ?_
 simp only [ntmps67, List.length_cons, List.length_nil, Nat.reduceAdd, Nat.reduceSub, List.replicate_succ, List.replicate_zero, List.cons_append, List.nil_append]
 refine AW.regl false [1, 2] (by rfl) fun K1 hK1 => ?_
 simp only [go_sem, Nat.reduceAdd, Nat.reduceEqDiff, Nat.reduceLeDiff, port_all, port_get]
 refine hK1 _ _ ?_
 conv => enter [5]; simp only [sl1, sl0, sz0, sz1]
 refine AW.regl false [2] (by rfl) fun K2 hK2 => ?_
 simp only [go_sem, Nat.reduceAdd, Nat.reduceEqDiff, Nat.reduceLeDiff, port_all, port_get]
 refine sC.of en68 ((port_calls p).on _).here rfl ?_
 try simp only [go_sem, Nat.reduceAdd, Nat.reduceEqDiff, Nat.reduceLeDiff, port_all, port_get]
 refine hK2 _ _ ?_
 conv => enter [5]; simp only [sl1, sl0, sz0, sz1]
 refine AW.ret ⟨.inr rfl, _, rfl, by simp, ?_⟩
 exact .keep rfl

set_option maxRecDepth 100000 in
theorem outfn_calls (f : FileM) (d : Dgm) (o : OutM) {σ : Sto} {o1 o2 : Nat} (h1 : σ[o1]? = some (.cells f.enc.cells)) (h2 : σ[o2]? = some (.cells d.enc.cells)) : APureOn prog Γ 70 [o.enc, .ref o1 0, .ref o2 0] σ (.val (.bool (!o.port.right || !f.source d o.src))) := by
 refine APureOn.of func70 rfl fun τ => ?_
 simp only [ntmps70, List.length_cons, List.length_nil, Nat.reduceAdd, Nat.reduceSub, List.replicate_succ, List.replicate_zero, List.cons_append, List.nil_append]
 have h1' := getL h1 τ
 have h2' := getL h2 τ
 generalize σ ++ τ = σ at h1' h2' ⊢
 have g1 := getL h1'
 have g2 := getL h2'
 refine AW.regl false [3, 4] (by rfl) fun K1 hK1 => ?_
 simp only [go_sem, Nat.reduceAdd, Nat.reduceEqDiff, Nat.reduceLeDiff, g1, g2, OutM.enc, dgm_get, file_get]
 refine hK1 _ _ ?_
 conv => enter [5]; simp only [sl1, sl0, sz0, sz1]
 refine AW.regtf false 4 (.val (.bool (!(o.port.right) || !(f.source d o.src)))) (by rfl) ?_ ?_
 ·skip
  cases h7 : (o.port.right)
  ·skip
   simp only [go_sem, Nat.reduceAdd, Nat.reduceEqDiff, Nat.reduceLeDiff, g1, g2, OutM.enc, dgm_get, file_get, h7]
   refine sC.of en68 ((port_calls o.port).on _).here rfl ?_
   try simp only [go_sem, Nat.reduceAdd, Nat.reduceEqDiff, Nat.reduceLeDiff, g1, g2, OutM.enc, dgm_get, file_get, h7]
   try simp [upd_at, h7, g1, g2, OutM.enc, dgm_get, file_get]
  ·skip
   simp only [go_sem, Nat.reduceAdd, Nat.reduceEqDiff, Nat.reduceLeDiff, g1, g2, OutM.enc, dgm_get, file_get, h7]
   refine sC.of en68 ((port_calls o.port).on _).here rfl ?_
   try simp only [go_sem, Nat.reduceAdd, Nat.reduceEqDiff, Nat.reduceLeDiff, g1, g2, OutM.enc, dgm_get, file_get, h7]
   refine sC.of en71 ((source_calls f d o.src).on _).here rfl ?_
   try simp only [go_sem, Nat.reduceAdd, Nat.reduceEqDiff, Nat.reduceLeDiff, g1, g2, OutM.enc, dgm_get, file_get, h7]
   try simp [upd_at, h7, g1, g2, OutM.enc, dgm_get, file_get]
 conv => enter [5]; simp only [sz0, sz1]
 refine AW.ret ⟨.inr rfl, _, rfl, by simp, ?_⟩
 exact .keep rfl

set_option maxRecDepth 100000 in
theorem blockfn_calls (f : FileM) (d : Dgm) (b : Blk) (hb : b.ok) {σ : Sto} {o1 o2 : Nat} (h1 : σ[o1]? = some (.cells f.enc.cells)) (h2 : σ[o2]? = some (.cells d.enc.cells)) : APureOn prog (GK w G) 72 [b.enc, .ref o1 0, .ref o2 0] σ (.val (.bool (!f.block d b))) := by
 refine APureOn.of func72 rfl fun τ => ?_
 simp only [ntmps72, List.length_cons, List.length_nil, Nat.reduceAdd, Nat.reduceSub, List.replicate_succ, List.replicate_zero, List.cons_append, List.nil_append]
 have h1' := getL h1 τ
 have h2' := getL h2 τ
 generalize σ ++ τ = σ at h1' h2' ⊢
 have g1 := getL h1'
 have g2 := getL h2'
 refine AW.regl false [3, 4] (by rfl) fun K1 hK1 => ?_
 simp only [go_sem, Nat.reduceAdd, Nat.reduceEqDiff, Nat.reduceLeDiff, g1, g2, blk_get, blk_all, dgm_get, file_get]
 refine hK1 _ _ ?_
 conv => enter [5]; simp only [sl1, sl0, sz0, sz1]
 refine AW.regl false [4] (by rfl) fun K2 hK2 => ?_
 simp only [go_sem, Nat.reduceAdd, Nat.reduceEqDiff, Nat.reduceLeDiff, g1, g2, blk_get, blk_all, dgm_get, file_get]
 refine sC.of en73 ((block_calls f d b hb).on _).here rfl ?_
 try simp only [go_sem, Nat.reduceAdd, Nat.reduceEqDiff, Nat.reduceLeDiff, g1, g2, blk_get, blk_all, dgm_get, file_get]
 refine hK2 _ _ ?_
 conv => enter [5]; simp only [sl1, sl0, sz0, sz1]
 refine AW.ret ⟨.inr rfl, _, rfl, by simp, ?_⟩
 exact .keep rfl

set_option maxRecDepth 100000 in
theorem diagram_calls (f : FileM) (d : Dgm) (hd : d.ok) : APure prog (GK w G) 47 [f.enc, d.enc] (.val (.bool (f.diagram d))) := by
 refine APure.of func47 rfl fun σ => ?_
 simp only [ntmps47, List.length_cons, List.length_nil, Nat.reduceAdd, Nat.reduceSub, List.replicate_succ, List.replicate_zero, List.cons_append, List.nil_append]
 obtain ⟨name, nlI, ins, nlO, outs, nlB, blocks⟩ := d
 obtain ⟨d1, ⟨d2, d3⟩, ⟨d4, d5⟩, d6, d7⟩ := hd
 have h2 : Dgm.enc ⟨name, nlI, ins, nlO, outs, nlB, blocks⟩ = .agg [str name, rowAV 2 nlI (ins.map PortM.enc), rowAV 4 nlO (outs.map OutM.enc), rowAV 7 nlB (blocks.map Blk.enc)] := rfl
 refine AW.regl false [2, 3, 4] (by rfl) fun K1 hK1 => ?_
 simp only [go_sem, Nat.reduceAdd, Nat.reduceEqDiff, Nat.reduceLeDiff, file_all, Dgm.enc, List.length_map]
 refine hK1 _ _ ?_
 conv => enter [5]; simp only [sl1, sl0, sz0, sz1]
 refine AW.regtf false 5 (.val (.bool (((decide ((ins.length : Int) ≤ 16777215) && decide ((outs.length : Int) ≤ 16777215)) && decide ((blocks.length : Int) ≤ 16777215)) && decide ((name.size : Int) ≤ 65535)))) (by rfl) ?_ ?_
 ·skip
  cases h11 : (decide ((ins.length : Int) ≤ 16777215))
  ·skip
   simp only [go_sem, Nat.reduceAdd, Nat.reduceEqDiff, Nat.reduceLeDiff, file_all, Dgm.enc, List.length_map, h11]
   try simp [upd_at, h11, file_all, Dgm.enc, List.length_map]
  ·skip
   cases h16 : (decide ((outs.length : Int) ≤ 16777215))
   ·skip
    simp only [go_sem, Nat.reduceAdd, Nat.reduceEqDiff, Nat.reduceLeDiff, file_all, Dgm.enc, List.length_map, h11, h16]
    try simp [upd_at, h11, h16, file_all, Dgm.enc, List.length_map]
   ·skip
    cases h22 : (decide ((blocks.length : Int) ≤ 16777215))
    ·skip
     simp only [go_sem, Nat.reduceAdd, Nat.reduceEqDiff, Nat.reduceLeDiff, file_all, Dgm.enc, List.length_map, h11, h16, h22]
     try simp [upd_at, h11, h16, h22, file_all, Dgm.enc, List.length_map]
    ·skip
     simp only [go_sem, Nat.reduceAdd, Nat.reduceEqDiff, Nat.reduceLeDiff, file_all, Dgm.enc, List.length_map, h11, h16, h22]
     try simp [upd_at, h11, h16, h22, file_all, Dgm.enc, List.length_map]
 conv => enter [5]; simp only [sz0, sz1]
 generalize hP5 : ((((decide ((ins.length : Int) ≤ 16777215) && decide ((outs.length : Int) ≤ 16777215)) && decide ((blocks.length : Int) ≤ 16777215)) && decide ((name.size : Int) ≤ 65535))) = P5
 refine AW.regl false [6] (by rfl) fun K3 hK3 => ?_
 simp only [go_sem, Nat.reduceAdd, Nat.reduceEqDiff, Nat.reduceLeDiff, file_all, Dgm.enc, List.length_map]
 refine sC.of en66 (containsFunc66 PortM.enc port_get nlI ins d2 67 en67 [] (fun p => !p.right) _ (fun p _ => (portfn_calls p).on _)).here rfl ?_
 try simp only [go_sem, Nat.reduceAdd, Nat.reduceEqDiff, Nat.reduceLeDiff, file_all, Dgm.enc, List.length_map]
 refine hK3 _ _ ?_
 conv => enter [5]; simp only [sl1, sl0, sz0, sz1]
 generalize hP6 : (!(ins.any fun p => !p.right)) = P6
 refine AW.regl false [7] (by rfl) fun K4 hK4 => ?_
 simp only [go_sem, Nat.reduceAdd, Nat.reduceEqDiff, Nat.reduceLeDiff, file_all, Dgm.enc, List.length_map]
 refine sC.of en69 (containsFunc69 OutM.enc out_get nlO outs d4 70 en70 _ (fun o => (!o.port.right || !f.source ⟨name, nlI, ins, nlO, outs, nlB, blocks⟩ o.src)) _ (fun o _ => outfn_calls f ⟨name, nlI, ins, nlO, outs, nlB, blocks⟩ o (by simp) (by simp [Dgm.enc, AV.cells]))).here rfl ?_
 try simp only [go_sem, Nat.reduceAdd, Nat.reduceEqDiff, Nat.reduceLeDiff, file_all, Dgm.enc, List.length_map]
 refine hK4 _ _ ?_
 conv => enter [5]; simp only [sl1, sl0, sz0, sz1]
 generalize hP7 : (!(outs.any fun o => (!o.port.right || !f.source ⟨name, nlI, ins, nlO, outs, nlB, blocks⟩ o.src))) = P7
 refine AW.regtf false 4 (.val (.bool (((P5 && P6) && P7) && !(blocks.any fun b => !f.block ⟨name, nlI, ins, nlO, outs, nlB, blocks⟩ b)))) (by rfl) ?_ ?_
 ·skip
  cases h5 : (P5)
  ·skip
   simp only [go_sem, Nat.reduceAdd, Nat.reduceEqDiff, Nat.reduceLeDiff, file_all, Dgm.enc, List.length_map, h5]
   try simp [upd_at, h5, file_all, Dgm.enc, List.length_map]
  ·skip
   cases h6 : (P6)
   ·skip
    simp only [go_sem, Nat.reduceAdd, Nat.reduceEqDiff, Nat.reduceLeDiff, file_all, Dgm.enc, List.length_map, h5, h6]
    try simp [upd_at, h5, h6, file_all, Dgm.enc, List.length_map]
   ·skip
    cases h7 : (P7)
    ·skip
     simp only [go_sem, Nat.reduceAdd, Nat.reduceEqDiff, Nat.reduceLeDiff, file_all, Dgm.enc, List.length_map, h5, h6, h7]
     try simp [upd_at, h5, h6, h7, file_all, Dgm.enc, List.length_map]
    ·skip
     simp only [go_sem, Nat.reduceAdd, Nat.reduceEqDiff, Nat.reduceLeDiff, file_all, Dgm.enc, List.length_map, h5, h6, h7]
     refine sC.of en51 (containsFunc51 Blk.enc blk_get nlB blocks d6 72 en72 _ (fun b => !f.block ⟨name, nlI, ins, nlO, outs, nlB, blocks⟩ b) _ (fun b hb => blockfn_calls f ⟨name, nlI, ins, nlO, outs, nlB, blocks⟩ b (d7 b hb) (by simp) (by simp [Dgm.enc, AV.cells]))).here rfl ?_
     try simp only [go_sem, Nat.reduceAdd, Nat.reduceEqDiff, Nat.reduceLeDiff, file_all, Dgm.enc, List.length_map, h5, h6, h7]
     try simp [upd_at, h5, h6, h7, file_all, Dgm.enc, List.length_map]
 conv => enter [5]; simp only [sz0, sz1]
 refine AW.ret ⟨.inr rfl, _, rfl, by simp, ?_⟩
 refine frzB ?_
 subst_vars
 rfl

set_option maxRecDepth 100000 in
theorem dgmfn_calls (f : FileM) (d : Dgm) (hd : d.ok) {σ : Sto} {o1 : Nat} (h1 : σ[o1]? = some (.cells f.enc.cells)) : APureOn prog (GK w G) 46 [d.enc, .ref o1 0] σ (.val (.bool (!f.diagram d))) := by
 refine APureOn.of func46 rfl fun τ => ?_
 simp only [ntmps46, List.length_cons, List.length_nil, Nat.reduceAdd, Nat.reduceSub, List.replicate_succ, List.replicate_zero, List.cons_append, List.nil_append]
 have h1' := getL h1 τ
 generalize σ ++ τ = σ at h1' ⊢
 have g1 := getL h1'
 refine AW.regl false [2, 3] (by rfl) fun K1 hK1 => ?_
 simp only [go_sem, Nat.reduceAdd, Nat.reduceEqDiff, Nat.reduceLeDiff, g1, dgm_get, dgm_all, file_get]
 refine hK1 _ _ ?_
 conv => enter [5]; simp only [sl1, sl0, sz0, sz1]
 refine AW.regl false [3] (by rfl) fun K2 hK2 => ?_
 simp only [go_sem, Nat.reduceAdd, Nat.reduceEqDiff, Nat.reduceLeDiff, g1, dgm_get, dgm_all, file_get]
 refine sC.of en47 ((diagram_calls f d hd).on _).here rfl ?_
 try simp only [go_sem, Nat.reduceAdd, Nat.reduceEqDiff, Nat.reduceLeDiff, g1, dgm_get, dgm_all, file_get]
 refine hK2 _ _ ?_
 conv => enter [5]; simp only [sl1, sl0, sz0, sz1]
 refine AW.ret ⟨.inr rfl, _, rfl, by simp, ?_⟩
 exact .keep rfl

set_option maxRecDepth 100000 in
theorem right_calls (f : FileM) (hf : f.ok) : APure prog (GK w G) 27 [f.enc] (.val (.bool f.right)) := by
 refine APure.of func27 rfl fun σ => ?_
 simp only [ntmps27, List.length_cons, List.length_nil, Nat.reduceAdd, Nat.reduceSub, List.replicate_succ, List.replicate_zero, List.cons_append, List.nil_append]
 obtain ⟨fnl, ds⟩ := f
 obtain ⟨f1, f2⟩ := hf
 refine AW.regl false [1, 2] (by rfl) fun K1 hK1 => ?_
 simp only [go_sem, Nat.reduceAdd, Nat.reduceEqDiff, Nat.reduceLeDiff, FileM.enc, List.length_map]
 refine hK1 _ _ ?_
 conv => enter [5]; simp only [sl1, sl0, sz0, sz1]
 refine AW.regtf false 2 (.val (.bool (decide ((ds.length : Int) ≤ 16777215) && !(ds.any fun d => !FileM.diagram ⟨fnl, ds⟩ d)))) (by rfl) ?_ ?_
 ·skip
  cases h6 : (decide ((ds.length : Int) ≤ 16777215))
  ·skip
   simp only [go_sem, Nat.reduceAdd, Nat.reduceEqDiff, Nat.reduceLeDiff, FileM.enc, List.length_map, h6]
   try simp [upd_at, h6, FileM.enc, List.length_map]
  ·skip
   simp only [go_sem, Nat.reduceAdd, Nat.reduceEqDiff, Nat.reduceLeDiff, FileM.enc, List.length_map, h6]
   refine sC.of en45 (containsFunc45 Dgm.enc dgm_get fnl ds f1 46 en46 _ (fun d => !FileM.diagram ⟨fnl, ds⟩ d) _ (fun d hd => dgmfn_calls ⟨fnl, ds⟩ d (f2 d hd) (by simp [FileM.enc, AV.cells]))).here rfl ?_
   try simp only [go_sem, Nat.reduceAdd, Nat.reduceEqDiff, Nat.reduceLeDiff, FileM.enc, List.length_map, h6]
   try simp [upd_at, h6, FileM.enc, List.length_map]
 conv => enter [5]; simp only [sz0, sz1]
 refine AW.ret ⟨.inr rfl, _, rfl, by simp, ?_⟩
 refine frzB ?_
 rfl
end Go.Proofs.Tryd
/-! Flow: plain things that its functions share. -/
namespace Go.Proofs.Ev
set_option linter.unusedSimpArgs false
set_option linter.unusedVariables false
open Go
variable {F : Fr} {P : Program} {Γ : List (Nat × List AV)}
theorem relL_told {C : Ctx} {t : Nat} {v w : AV} (hr : ∀ x, RelV C v x → RelV C w x) : ∀ {env : Env} {xs : List Value}, env[t]? = some v → RelL C env xs → RelL C (env.set t w) xs := by
 intro env xs ht hL
 obtain ⟨x, h1, h2⟩ := relL_get hL ht
 have := relL_set (i := t) hL (hr x h2)
 rwa [show xs.set t x = xs from by
  apply List.ext_getElem?
  intro j
  rw [List.getElem?_set]
  split
  ·rename_i e
   subst e
   split
   ·exact h1.symm
   ·rename_i h
    rw [List.getElem?_eq_none (by omega)]
  ·rfl] at this
/-- A temporary's right to append is given up. -/
theorem AW.stillT (t : Nat) {v : AV} {c : Code} {env : Env} {σ : Sto} {Q : Exit → Env → Sto → Prop} (ht : env[t]? = some v) (h : AW F P Γ c (env.set t v.still) σ Q) : AW F P Γ c env σ Q :=
 fun C a hs => h C a ⟨hs.σ, hs.S, hs.G, relL_told (fun _ hx => hx.still) ht hs.L, hs.D⟩
theorem still_slof (sz : Nat) (es : List AV) (k : Nat) : AV.still (.slo false sz es k) = .sl sz es := by cases es <;> rfl
theorem ap_en {α : Type} {en : α → AV} {l : List α} (hl : l.length ≤ 4000) (nl : Bool) {sz b : Nat} (hb : b ≤ 4096) (a : α) (σ : Sto) (k : Nat) : appAt σ nl sz b (l.map en) k [en a] (some (.cap l.length sz)) = some (.slo nl sz ((l ++ [a]).map en) k, σ.set k (.cap (l.length + 1) sz)) := by
 rw [appAt_one σ nl sz b _ k l.length (en a) (by simp) (by
  have h1 : (l.length + 1) * b ≤ 4001 * 4096 := Nat.mul_le_mul (by omega) hb
  simp only [fits, List.length_map, Bool.and_eq_true, decide_eq_true_eq]
  omega)]
 simp
end Go.Proofs.Ev
namespace Go.Proofs.Tryd
open Go Go.Proofs.Ev
namespace Fl
theorem file_cells (f : FileM) : f.enc.cells = [rowAV 4 f.nl (f.ds.map Dgm.enc)] := rfl
theorem dgm_cb (d : Dgm) (n : Nat) : AO.bel n (.cells d.enc.cells) = true := dgm_cbel' d n
theorem blk_cb (b : Blk) (n : Nat) : AO.bel n (.cells b.enc.cells) = true := by
 have := blk_bel b n
 simpa [Blk.enc, AV.bel, AV.cells, AO.bel] using this
theorem ordAV_eq (o : Option (List Nat)) : ordAV o = .tup [rowAV 1 true ((o.getD []).map natA), .val (.bool o.isSome)] := by cases o <;> rfl
/-- On which blocks each block hangs. -/
def hgs (d : Dgm) : List (List Bool) := d.blocks.map (rowF d.blocks.length)
theorem hgs_len (d : Dgm) : (hgs d).length = d.blocks.length := by simp [hgs]
theorem hgs_map (d : Dgm) : d.blocks.map (fun b : Blk => rowB (rowF d.blocks.length b)) = (hgs d).map rowB := by simp only [hgs, List.map_map]; rfl
theorem hgs_row (d : Dgm) : ∀ r ∈ hgs d, r.length = (hgs d).length := fun r hr => by
 obtain ⟨b, _, rfl⟩ := List.mem_map.1 hr
 rw [rowF_len, hgs_len]
def ordD (d : Dgm) : Option (List Nat) := ord (mat (hgs d)) d.blocks.length
/-- On which diagrams a diagram hangs. -/
def hitS (l : List Bool) (b : Blk) : List Bool := if (b.kind == 7) = true then l.set b.sub.toNat true else l
def subRow (n : Nat) (l : List Blk) : List Bool := l.foldl hitS (List.replicate n false)
theorem hitS_len (l : List Bool) (b : Blk) : (hitS l b).length = l.length := by
 unfold hitS
 split <;> simp
theorem hitsS_len (l : List Blk) : ∀ r : List Bool, (l.foldl hitS r).length = r.length := by
 induction l with
 | nil => exact fun _ => rfl
 | cons s l ih =>
  intro r
  rw [List.foldl_cons, ih, hitS_len]
theorem subRow_len (n : Nat) (l : List Blk) : (subRow n l).length = n := by rw [subRow, hitsS_len]; simp
theorem subRow_snoc {l : List Blk} {j : Nat} (hj : j < l.length) (n : Nat) : subRow n (l.take (j + 1)) = hitS (subRow n (l.take j)) l[j] := by
 rw [subRow, List.take_succ_eq_append_getElem hj, List.foldl_append]
 rfl
def sgs (f : FileM) : List (List Bool) := f.ds.map fun d => subRow f.ds.length d.blocks
theorem sgs_len (f : FileM) : (sgs f).length = f.ds.length := by simp [sgs]
theorem sgs_map (f : FileM) : f.ds.map (fun d : Dgm => rowB (subRow f.ds.length d.blocks)) = (sgs f).map rowB := by simp only [sgs, List.map_map]; rfl
theorem sgs_row (f : FileM) : ∀ r ∈ sgs f, r.length = (sgs f).length := fun r hr => by
 obtain ⟨b, _, rfl⟩ := List.mem_map.1 hr
 rw [subRow_len, sgs_len]
def ordF (f : FileM) : Option (List Nat) := ord (mat (sgs f)) f.ds.length
/-- Blocks' diagrams are there. -/
def subOk (f : FileM) (d : Dgm) : Prop := ∀ b ∈ d.blocks, b.kind = 7 → 0 ≤ b.sub ∧ b.sub < (f.ds.length : Int)
/-- How a right block is made. -/
structure WfB (f : FileM) (b : Blk) : Prop where
 lo : 0 ≤ b.kind
 hi : b.kind ≤ 7
 one : b.kind = 2 ∨ b.kind = 4 → b.src.length = 1
 bin : b.kind = 3 → b.src.length = 2 ∧ 1 ≤ b.op ∧ b.op ≤ 15
 two : b.kind = 5 → b.src.length = 2
 three : b.kind = 6 → b.src.length = 3
 sub : b.kind = 7 → 0 ≤ b.sub ∧ b.sub < (f.ds.length : Int)
/-- A source's type, by definition; so many steps. -/
def typB (f : FileM) (g : Src → Int) (b : Blk) (port : Int) : Int :=
 if (b.kind == 0) = true then 0 else if (b.kind == 1) = true then 1 else if ((b.kind == 2) || (b.kind == 4)) = true then b.op
 else if (b.kind == 3) = true then (if decide (b.op ≥ 11) = true then 0 else 1)
 else if (b.kind == 5) = true then (match b.src[0]? with | some s => g s | none => 0)
 else if (b.kind == 6) = true then (match b.src[1]? with | some s => g s | none => 0)
 else match f.ds[b.sub.toNat]? with
  | some e => (match e.outs[port.toNat]? with | some o => o.port.type | none => 0)
  | none => 0
def typ (f : FileM) (d : Dgm) : Nat → Src → Int
 | 0, _ => 0
 | n + 1, s =>
  if ((decide (s.port < 0) || decide (s.block < -1)) || decide (s.block ≥ (d.blocks.length : Int))) = true then -1
  else if (s.block == -1) = true then (if decide (s.port ≥ (d.ins.length : Int)) = true then -1 else match d.ins[s.port.toNat]? with | some p => p.type | none => 0)
  else match d.blocks[s.block.toNat]? with
   | some b => if decide (s.port ≥ f.results b) = true then -1 else typB f (typ f d n) b s.port
   | none => 0
/-- A source's type is told in so many steps. -/
def Dp (d : Dgm) : Nat → Src → Prop
 | 0, _ => False
 | n + 1, s => 0 ≤ s.block → ∀ b, d.blocks[s.block.toNat]? = some b → (b.kind = 5 → ∀ s', b.src[0]? = some s' → Dp d n s') ∧ (b.kind = 6 → ∀ s', b.src[1]? = some s' → Dp d n s')
def insT (f : FileM) (b : Blk) : List Int := match f.ds[b.sub.toNat]? with
 | some e => e.ins.map (·.type)
 | none => []
def askB (f : FileM) (b : Blk) (t : List Int) : Bool :=
 if ((b.kind == 2) || (b.kind == 4)) = true then t.getD 0 0 == b.op
 else if (b.kind == 3) = true then (t.getD 0 0 == t.getD 1 0 && (decide (b.op > 4) || t.getD 0 0 == 1)) && (decide (b.op < 7) || t.getD 0 0 == 0)
 else if (b.kind == 5) = true then t.getD 0 0 == t.getD 1 0
 else if (b.kind == 6) = true then t.getD 0 0 == 1 && t.getD 1 0 == t.getD 2 0
 else if (b.kind == 7) = true then decide (t = insT f b)
 else true
abbrev intA (n : Int) : AV := i64 n
theorem int_bel (x : Int) (n : Nat) : (intA x).bel n = true := rfl
theorem nat_bel (x : Nat) (n : Nat) : (natA x).bel n = true := rfl
theorem str_bel (x : ByteArray) (n : Nat) : (str x).bel n = true := rfl
theorem ap_int {l : List Int} (hl : l.length ≤ 4000) (nl : Bool) (n : Int) (σ : Sto) (k : Nat) : appAt σ nl 1 8 (l.map intA) k [.val (.int .i64 n)] (some (.cap l.length 1)) = some (.slo nl 1 ((l ++ [n]).map intA) k, σ.set k (.cap (l.length + 1) 1)) := ap_en (en := intA) hl nl (by decide) n σ k
theorem ap_str {l : List ByteArray} (hl : l.length ≤ 4000) (nl : Bool) (s : ByteArray) (σ : Sto) (k : Nat) : appAt σ nl 1 16 (l.map str) k [.val (.string s)] (some (.cap l.length 1)) = some (.slo nl 1 ((l ++ [s]).map str) k, σ.set k (.cap (l.length + 1) 1)) := ap_en (en := str) hl nl (by decide) s σ k
def portsN (d : Dgm) : List ByteArray := d.ins.map (·.name) ++ d.outs.map (·.port.name)
def namesM (f : FileM) (i : Nat) (d : Dgm) : Bool := (((portsN d).all A.nameM && decide (portsN d).Nodup) && A.nameM d.name) && decide (findD f.ds d.name = some i)
/-- Names are not too long. -/
structure NmD (d : Dgm) : Prop where
 name : d.name.size ≤ 65535
 ports : ∀ s ∈ portsN d, s.size ≤ 65535
def sumR (f : FileM) (l : List Blk) : Int := (l.map f.results).sum
theorem sumR_snoc {f : FileM} {l : List Blk} {j : Nat} (hj : j < l.length) : sumR f (l.take (j + 1)) = sumR f (l.take j) + f.results l[j] := by
 rw [sumR, List.take_succ_eq_append_getElem hj, List.map_append, List.sum_append]
 simp [sumR]
theorem results_le {f : FileM} {m : Nat} (hm : 1 ≤ m) (h : ∀ d ∈ f.ds, d.outs.length ≤ m) (b : Blk) : 0 ≤ f.results b ∧ f.results b ≤ (m : Int) := by
 unfold FileM.results
 split
 ·omega
 split
 ·omega
 split
 ·omega
 split
 ·rename_i d hd
  have := h d (List.mem_of_getElem? hd)
  omega
 ·omega
theorem sumR_le {f : FileM} {m : Nat} (hm : 1 ≤ m) (h : ∀ d ∈ f.ds, d.outs.length ≤ m) : ∀ l : List Blk, 0 ≤ sumR f l ∧ sumR f l ≤ (m : Int) * l.length
 | [] => by simp [sumR]
 | b :: l => by
  obtain ⟨h1, h2⟩ := sumR_le hm h l
  obtain ⟨h3, h4⟩ := results_le hm h b
  have e : sumR f (b :: l) = f.results b + sumR f l := by simp [sumR]
  rw [e, List.length_cons, Int.natCast_add, Int.mul_add]
  simp only [Int.natCast_one, Int.mul_one]
  omega
def ordV (o : Option (List Nat)) : AV := .tup [rowAV 1 true ((o.getD []).map natA), .val (.bool o.isSome)]
theorem ordV_bel (o : Option (List Nat)) (n : Nat) : (ordV o).bel n = true := by
 simp only [ordV, AV.bel, belL, Bool.and_true]
 exact row_bel nat_bel _ _ _ _
theorem rsortD (d : Dgm) (hn : d.blocks.length ≤ 1000) {Γ : List (Nat × List AV)} : APure prog Γ 34 [rowAV 1 true ((hgs d).map rowB)] (ordV (ordD d)) := by
 have := rsort_calls (Γ := Γ) (hgs d) true (by rw [hgs_len]; exact hn) (hgs_row d)
 rwa [hgs_len, ordAV_eq] at this
theorem rsortF (f : FileM) (hn : f.ds.length ≤ 1000) {Γ : List (Nat × List AV)} : APure prog Γ 34 [rowAV 1 true ((sgs f).map rowB)] (ordV (ordF f)) := by
 have := rsort_calls (Γ := Γ) (sgs f) true (by rw [sgs_len]; exact hn) (sgs_row f)
 rwa [sgs_len, ordAV_eq] at this
theorem rowT {T : List Int} {i : Nat} (h : i < T.length) (nl : Bool) (k : IntKind) : aAt 1 (rowAV 1 nl (T.map intA)) (.val (.int k (i : Nat))) = some (.er [i64 (T.getD i 0)]) := by
 have hx : (T.map intA)[i]? = some (intA (T.getD i 0)) := by simp [List.getD_eq_getElem?_getD, h]
 exact at_row hx
theorem rowT0 {T : List Int} (h : 0 < T.length) (nl : Bool) (k : IntKind) : aAt 1 (rowAV 1 nl (T.map intA)) (.val (.int k 0)) = some (.er [i64 (T.getD 0 0)]) := rowT (i := 0) h nl k
theorem rowT1 {T : List Int} (h : 1 < T.length) (nl : Bool) (k : IntKind) : aAt 1 (rowAV 1 nl (T.map intA)) (.val (.int k 1)) = some (.er [i64 (T.getD 1 0)]) := rowT (i := 1) h nl k
theorem rowT2 {T : List Int} (h : 2 < T.length) (nl : Bool) (k : IntKind) : aAt 1 (rowAV 1 nl (T.map intA)) (.val (.int k 2)) = some (.er [i64 (T.getD 2 0)]) := rowT (i := 2) h nl k
theorem results7 {f : FileM} {b : Blk} {u : Nat} {e : Dgm} (h7 : b.kind = 7) (hu : b.sub = (u : Int)) (he : f.ds[u]? = some e) : f.results b = (e.outs.length : Int) := by
 have hl := (List.getElem?_eq_some_iff.1 he).1
 unfold FileM.results
 simp only [h7, hu, Int.toNat_natCast, he]
 rw [if_neg (by simp), if_neg (by simp), if_neg (by simp; omega)]
def rngB (f : FileM) (d : Dgm) : Bool := d.blocks.all (fun b => decide (b.src.length ≤ 1000)) && (((decide (f.ds.length ≤ 1000) && decide (d.ins.length ≤ 1000)) && decide ((d.outs.length : Int) + sumR f d.blocks ≤ 1000)) && decide (d.outs.length + d.blocks.length ≤ 1000))
def arB (f : FileM) (b : Blk) : Bool := (b.kind == 7) && decide (¬ b.src.length = (insT f b).length)
def dN (d : Dgm) : Nat := d.blocks.length + 1
def asksB (f : FileM) (d : Dgm) : Bool := d.blocks.all (fun b => askB f b (b.src.map (typ f d (dN d)))) && d.outs.all (fun o => typ f d (dN d) o.src == o.port.type)
def diaM (f : FileM) (i : Nat) (d : Dgm) : Int :=
 if namesM f i d = false then 6 else if d.outs.length = 0 then 10 else if rngB f d = false then 4 else if d.blocks.any (arB f) = true then 8 else if (ordD d).isSome = false then 9 else if asksB f d = false then 7 else 0
def diaAt (f : FileM) (i : Nat) : Int := match f.ds[i]? with
 | some d => diaM f i d
 | none => 0
def checkM (f : FileM) : Int := match (List.range f.ds.length).find? (fun i => diaAt f i != 0) with
 | some i => diaAt f i
 | none => if (ordF f).isSome = true then 0 else 9
theorem numA_eq (o : Option Nat) (i : Nat) : (numA o == ((i : Nat) : Int)) = decide (o = some i) := by
 cases o with
 | none =>
  rw [Bool.eq_iff_iff]
  simp [numA]
 | some j =>
  rw [Bool.eq_iff_iff]
  simp [numA]
  omega
theorem Dp.mono {d : Dgm} : ∀ {n : Nat} {s : Src}, Dp d n s → Dp d (n + 1) s
 | 0, _, h => h.elim
 | n + 1, s, h => fun h0 b hb => ⟨fun h5 s' hs => ((h h0 b hb).1 h5 s' hs).mono, fun h6 s' hs => ((h h0 b hb).2 h6 s' hs).mono⟩
theorem Dp.le {d : Dgm} {n : Nat} {s : Src} (h : Dp d n s) : ∀ {m : Nat}, n ≤ m → Dp d m s := by
 intro m hm
 obtain ⟨k, rfl⟩ := Nat.le.dest hm
 induction k with
 | zero => exact h
 | succ k ih => exact (ih (Nat.le_add_right _ _)).mono
theorem hits_at {l : List Src} {s : Src} {j : Nat} (hs : s ∈ l) (hj : s.block = (j : Int)) : ∀ {r : List Bool}, j < r.length → (l.foldl hit r).getD j false = true := by
 induction l with
 | nil => cases hs
 | cons x l ih =>
  intro r hr
  rw [List.foldl_cons]
  rcases List.mem_cons.1 hs with e | hs
  ·subst e
   have h1 : (hit r s).getD j false = true := by
    simp [hit, hj, List.getD_eq_getElem?_getD, hr]
   have keep : ∀ (l : List Src) (r : List Bool), r.getD j false = true → (l.foldl hit r).getD j false = true := by
    intro l
    induction l with
    | nil => exact fun _ h => h
    | cons y l ih =>
     intro r h
     rw [List.foldl_cons]
     refine ih _ ?_
     unfold hit
     split
     ·rw [List.getD_eq_getElem?_getD] at h ⊢
      rw [List.getElem?_set]
      split
      ·rename_i e
       rw [e]
       split
       ·rfl
       ·rename_i hl
        rw [List.getElem?_eq_none (by omega)] at h
        cases h
      ·exact h
     ·exact h
   exact keep l _ h1
  ·exact ih hs (by rw [hit_len]; exact hr)
theorem mat_hgs {d : Dgm} {i j : Nat} {b : Blk} {s : Src} (hi : d.blocks[i]? = some b) (h4 : ¬ b.kind = 4) (hs : s ∈ b.src) (hj : s.block = (j : Int)) (hl : j < d.blocks.length) : mat (hgs d) i j = true := by
 unfold mat hgs
 rw [show (d.blocks.map (rowF d.blocks.length)).getD i [] = rowF d.blocks.length b by simp [List.getD_eq_getElem?_getD, hi]]
 unfold rowF
 rw [if_neg h4]
 exact hits_at hs hj (by simpa using hl)
theorem dp_ord {d : Dgm} {o : List Nat} (ho : ordD d = some o) (hin : inB d) : ∀ (m : Nat) (p : List Nat) (k : Nat) (q : List Nat), p.length ≤ m → o = p ++ k :: q → ∀ s : Src, s.block = (k : Int) → Dp d (p.length + 2) s
 | m, p, k, q, hm, e, s, hsk => by
  obtain ⟨h1, h2, h3, h4⟩ := ord_ok ho
  have key : ∀ b, d.blocks[s.block.toNat]? = some b → ¬ b.kind = 4 → ∀ s' ∈ b.src, Dp d (p.length + 1) s' := by
   intro b hb hk s' hs
   rw [hsk, Int.toNat_natCast] at hb
   by_cases hpos : 0 ≤ s'.block
   ·obtain ⟨j, hj⟩ := Int.eq_ofNat_of_zero_le hpos
    have hjl : j < d.blocks.length := by have := hin b (List.mem_of_getElem? hb) s' hs; omega
    have hR := mat_hgs hb hk hs hj hjl
    have hmem := h4 p k q e j hjl hR
    obtain ⟨p1, p2, rfl⟩ := List.append_of_mem hmem
    match m, hm with
    | 0, hm => simp at hm
    | m + 1, hm =>
     have := dp_ord ho hin m p1 j (p2 ++ k :: q) (by simp at hm; omega) (by rw [e]; simp) s' hj
     exact this.le (by simp)
   ·exact fun h => absurd h hpos
  exact fun _ b hb => ⟨fun h5 s' hs => key b hb (by omega) s' (List.mem_of_getElem? hs), fun h6 s' hs => key b hb (by omega) s' (List.mem_of_getElem? hs)⟩
theorem nodup_le : ∀ (n : Nat) (l : List Nat), l.Nodup → (∀ x ∈ l, x < n) → l.length ≤ n
 | 0, [], _, _ => Nat.le_refl _
 | 0, x :: _, _, h => absurd (h x List.mem_cons_self) (Nat.not_lt_zero _)
 | n + 1, l, hd, h => by
  have := nodup_le n (l.erase n) (hd.erase n) fun x hx => by
   obtain ⟨h1, h2⟩ := hd.mem_erase_iff.1 hx
   have := h x h2
   omega
  rw [List.length_erase] at this
  split at this <;> omega
theorem all_mem {n : Nat} {o : List Nat} (h1 : o.length = n) (h2 : ∀ k ∈ o, k < n) (h3 : o.Nodup) {k : Nat} (hk : k < n) : k ∈ o := by
 by_cases h : k ∈ o
 ·exact h
 ·have := nodup_le n (k :: o) (List.nodup_cons.2 ⟨h, h3⟩) fun x hx => by
   rcases List.mem_cons.1 hx with rfl | hx
   ·exact hk
   ·exact h2 x hx
  simp only [List.length_cons] at this
  omega
theorem dp_all {d : Dgm} {o : List Nat} (ho : ordD d = some o) (hin : inB d) (s : Src) : Dp d (dN d) s := by
 obtain ⟨h1, h2, h3, h4⟩ := ord_ok ho
 intro h0 b hb
 have hk := (List.getElem?_eq_some_iff.1 hb).1
 have hmem : s.block.toNat ∈ o := all_mem h1 h2 h3 hk
 obtain ⟨p, q, e⟩ := List.append_of_mem hmem
 have hpl : p.length + 2 ≤ dN d := by
  have := congrArg List.length e
  simp only [List.length_append, List.length_cons] at this
  unfold dN
  omega
 exact ((dp_ord ho hin p.length p _ q (Nat.le_refl _) e s (by omega)).le hpl) h0 b hb
theorem row_false' (sz : Nat) (l : List AV) : AV.sl sz l = rowAV sz false l := (row_false ..).symm
theorem not_mem_snoc {α : Type} {s : α} {l : List α} {j : Nat} (hj : j < l.length) (h : s ∉ l.take j) (hn : ¬ l[j] = s) : s ∉ l.take (j + 1) := by
 rw [List.take_succ_eq_append_getElem hj, List.mem_append, List.mem_singleton]
 rintro (h1 | h1)
 ·exact h h1
 ·exact hn h1.symm
theorem nodup_snoc {α : Type} {l : List α} {k : Nat} (hk : k < l.length) (h : (l.take k).Nodup) (hn : l[k] ∉ l.take k) : (l.take (k + 1)).Nodup := by
 rw [List.take_succ_eq_append_getElem hk, List.nodup_append]
 refine ⟨h, by simp, fun a ha b hb => ?_⟩
 rw [List.mem_singleton.1 hb]
 rintro rfl
 exact hn ha
theorem not_nodup {α : Type} {l : List α} {j k : Nat} (hjk : j < k) (hk : k < l.length) (h : l[j] = l[k]) : ¬ l.Nodup := fun hd => (List.pairwise_iff_getElem.1 hd j k (by omega) hk hjk) h
theorem all_snoc {α : Type} {p : α → Bool} {l : List α} {k : Nat} (hk : k < l.length) (h : (l.take k).all p = true) (hp : p l[k] = true) : (l.take (k + 1)).all p = true := by
 rw [List.take_succ_eq_append_getElem hk, List.all_append, h]
 simp [hp]
theorem all_at {α : Type} {p : α → Bool} {l : List α} {k : Nat} (hk : k < l.length) (hp : p l[k] = false) : l.all p = false := by
 rw [Bool.eq_false_iff]
 intro h
 have := List.all_eq_true.1 h _ (List.getElem_mem hk)
 rw [hp] at this
 cases this
theorem insT_len {f : FileM} {b : Blk} {u : Nat} {e : Dgm} (hu : b.sub = (u : Int)) (he : f.ds[u]? = some e) : (insT f b).length = e.ins.length := by simp [insT, hu, he]
theorem diaAt_eq {f : FileM} {i : Nat} {d : Dgm} (h : f.ds[i]? = some d) : diaAt f i = diaM f i d := by simp [diaAt, h]
theorem checkM_at {f : FileM} {i : Nat} (hi : i < f.ds.length) (h : ∀ j, j < i → diaAt f j = 0) (hn : ¬ diaAt f i = 0) : checkM f = diaAt f i := by
 have : (List.range f.ds.length).find? (fun i => diaAt f i != 0) = some i := by
  rw [List.find?_range_eq_some]
  refine ⟨by simpa using hn, by simpa using hi, fun j hj => ?_⟩
  simp [h j hj]
 rw [checkM, this]
theorem checkM_end {f : FileM} (h : ∀ j, j < f.ds.length → diaAt f j = 0) : checkM f = if (ordF f).isSome = true then 0 else 9 := by
 have : (List.range f.ds.length).find? (fun i => diaAt f i != 0) = none := by
  rw [List.find?_eq_none]
  intro j hj
  simp [h j (List.mem_range.1 hj)]
 rw [checkM, this]
/-- What is known of a diagram of a right file. -/
structure GoodD (f : FileM) (d : Dgm) : Prop where
 nm : NmD d
 wf : ∀ b ∈ d.blocks, WfB f b
 src : ∀ b ∈ d.blocks, ∀ s ∈ b.src, f.source d s = true
 out : ∀ o ∈ d.outs, f.source d o.src = true
 tin : ∀ p ∈ d.ins, p.type = 0 ∨ p.type = 1
 tout : ∀ o ∈ d.outs, o.port.type = 0 ∨ o.port.type = 1
theorem source_lt {f : FileM} {d : Dgm} {s : Src} (h : f.source d s = true) : s.block < (d.blocks.length : Int) ∧ -1 ≤ s.block ∧ 0 ≤ s.port := by
 unfold FileM.source at h
 split at h
 ·rename_i h1
  split at h
  ·cases h
  ·rename_i h2
   have h2 : ¬ (s.block < 0 ∨ s.block ≥ (d.blocks.length : Int)) := by simpa using h2
   split at h
   ·simp at h
    omega
   ·cases h
 ·rename_i h1
  have : s.block = -1 := by simpa using h1
  simp at h
  omega
theorem GoodD.inB {f : FileM} {d : Dgm} (h : GoodD f d) : inB d := fun b hb s hs => (source_lt (h.src b hb s hs)).1
theorem GoodD.subOk {f : FileM} {d : Dgm} (h : GoodD f d) : subOk f d := fun b hb => (h.wf b hb).sub
theorem beq_nat (a b : Nat) : (((a : Nat) : Int) == ((b : Nat) : Int)) = decide (a = b) := by
 rw [Bool.eq_iff_iff]
 simp
 omega
end Fl
end Go.Proofs.Tryd
/-! Flow: plain things of the program's own functions. -/
namespace Go.Proofs.Ev
set_option linter.unusedSimpArgs false
set_option linter.unusedVariables false
open Go
/-- A function's body; what it left behind is forgotten. -/
theorem ACalls.ofT {P : Program} {Γ : List (Nat × List AV)} {f : FuncId} {fn : Func} {c : Code} {args : List AV} {σ : Sto} {R : AV → Sto → Prop} (hf : P.funcs[f]? = some fn) (hb : fn.body = some c)
  (h : AW .plain P Γ c (args ++ List.replicate (fn.ntmps - args.length) .any) σ (fun e env σ' => (e = .normal ∨ e = .ret) ∧ ∃ v, aReturn P fn σ' env = some v ∧ ∃ σ1 ρ, σ' = σ1 ++ ρ ∧ σ1.length = σ.length ∧ (∀ (i : Nat) (a : AO), σ1[i]? = some a → σ[i]? = some a ∨ a.bel σ.length = true) ∧ v.bel σ.length = true ∧ R v σ1)) : ACalls P Γ f args σ R :=
 ACalls.trunc (ACalls.of (R := fun v σ' => ∃ σ1 ρ, σ' = σ1 ++ ρ ∧ σ1.length = σ.length ∧ (∀ (i : Nat) (a : AO), σ1[i]? = some a → σ[i]? = some a ∨ a.bel σ.length = true) ∧ v.bel σ.length = true ∧ R v σ1) hf hb h) fun _ _ hr => hr
theorem AW.regtdf2 {F : Fr} {P : Program} {Γ : List (Nat × List AV)} (hm : P.follows .mixedOrders = true) (md : Bool) (t : Nat) (v : AV) (t2 : Nat) (v2 : AV) {id : Nat} {l : List Oper} {y : Code} {env : Env} {σ : Sto} {Q : Exit → Env → Sto → Prop} (hb : blockB .any l.toArray 0 l.length = true) (hk : keepB l env [t, t2] = true)
  (h : AQF P Γ md l.toArray σ (fun fe => fe t = v ∧ fe t2 = v2) l (fun t => env.getD t .any)) (k : AW F P Γ y ((env.set t v).set t2 v2) σ Q) : AW F P Γ (.seq (.region id l.toArray true) y) env σ Q := by
 refine AW.seq (AW.drawf (ts := [t, t2]) hm md hb hk (AQF.mono ?_ h))
 rintro fe ⟨rfl, rfl⟩ env' hw
 exact AW.weaken hw k
end Go.Proofs.Ev
namespace Go.Proofs.Tryd
open Go Go.Proofs.Ev
namespace Fl
/-- What the program says of a block's result, of its sources' types. -/
def rul (b : Blk) : Int × Int := rulesT.getD (b.op - 1).toNat (0, 0)
def resM (b : Blk) (t : List Int) : Int × Bool :=
 if (b.kind == 1) = true then (1, true)
 else if (b.kind == 2) = true then (b.op, t.getD 0 0 == b.op)
 else if (b.kind == 4) = true then (b.op, true)
 else if (b.kind == 3) = true then ((rul b).2, t.getD 0 0 == t.getD 1 0 && ((rul b).1 == 2 || (rul b).1 == t.getD 0 0))
 else if (b.kind == 5) = true then (t.getD 0 0, t.getD 0 0 == t.getD 1 0)
 else if (b.kind == 6) = true then (t.getD 1 0, t.getD 0 0 == 1 && t.getD 1 0 == t.getD 2 0)
 else (0, true)
theorem rul_at {b : Blk} (h1 : 1 ≤ b.op) (h2 : b.op ≤ 15) : ∃ q : Nat, b.op - 1 = (q : Int) ∧ (rulesT.map encR)[q]? = some (encR (rul b)) := by
 obtain ⟨q, hq⟩ := Int.eq_ofNat_of_zero_le (show 0 ≤ b.op - 1 by omega)
 refine ⟨q, hq, ?_⟩
 have hl : q < rulesT.length := by simp only [rulesT, List.length_cons, List.length_nil]; omega
 rw [List.getElem?_map, List.getElem?_eq_getElem hl]
 simp only [rul, hq, Int.toNat_natCast, List.getD_eq_getElem?_getD, List.getElem?_eq_getElem hl, Option.map_some, Option.getD_some]
theorem encR_get (r : Int × Int) : aGet prog 162 (encR r).cells = some (encR r) := by simp only [encR, go_sem]
theorem encR_all (r : Int × Int) : (encR r).cells.all AV.one = true := rfl
theorem encR_len (r : Int × Int) : (encR r).cells.length = 2 := rfl
/-- Rows of rows of numbers. -/
def rowN (l : List Nat) : AV := rowAV 1 true (l.map natA)
theorem rowN_len (l : List Nat) : (rowN l).cells.length = 1 := by unfold rowN; cases l <;> rfl
theorem rowN_cells (l : List Nat) : (rowN l).cells = [rowN l] := by unfold rowN; cases l <;> rfl
theorem rowN_bel (l : List Nat) (n : Nat) : (rowN l).bel n = true := row_bel nat_bel _ _ _ _
theorem nat_get (n : Nat) : aGet prog 3 (natA n).cells = some (natA n) := by simp only [natA, AV.cells, go_sem]
def lmat (l : List (List Nat)) (i k : Nat) : Bool := decide (k ∈ l.getD i [])
theorem rdy_any {l : List (List Nat)} {d : List Bool} {i : Nat} (h : ∀ x ∈ l, ∀ k ∈ x, k < l.length) : rdy (lmat l) l.length d i = (!d.getD i false && !((l.getD i []).any fun k => !d.getD k false)) := by
 unfold rdy
 congr 1
 rw [Bool.eq_iff_iff]
 simp only [List.all_eq_true, List.mem_range, Bool.or_eq_true, Bool.not_eq_true', lmat, decide_eq_false_iff_not, List.any_eq_false, Bool.not_eq_true, Bool.not_eq_false']
 constructor
 ·intro g k hk
  have hl : k < l.length := by
   rw [List.getD_eq_getElem?_getD] at hk
   cases hi : l[i]? with
   | none => rw [hi] at hk; cases hk
   | some x => rw [hi] at hk; exact h x (List.mem_of_getElem? hi) k hk
  rcases g k hl with g | g
  ·simpa using g
  ·exact absurd hk g
 ·intro g k hk
  by_cases hm : k ∈ l.getD i []
  ·exact .inl (by simpa using g k hm)
  ·exact .inr hm
theorem nxt_at {R : Nat → Nat → Bool} {n : Nat} {d : List Bool} {i : Nat} (hi : i < n) (h : ∀ j, j < i → rdy R n d j = false) (hr : rdy R n d i = true) : nxt R n d = some i := by
 unfold nxt
 rw [List.find?_range_eq_some]
 exact ⟨hr, List.mem_range.2 hi, fun j hj => by simp [h j hj]⟩
theorem nxt_end {R : Nat → Nat → Bool} {n : Nat} {d : List Bool} (h : ∀ j, j < n → rdy R n d j = false) : nxt R n d = none := by
 unfold nxt
 rw [List.find?_eq_none]
 intro j hj
 simp [h j (List.mem_range.1 hj)]
/-- The blocks on which a block hangs, as the program lists them. -/
def hangB (b : Blk) (l : List Src) : List Nat := (l.filter fun s => (b.kind != 4) && decide (s.block ≥ 0)).map fun s => s.block.toNat
theorem hangB_snoc {b : Blk} {l : List Src} {j : Nat} (hj : j < l.length) : hangB b (l.take (j + 1)) = hangB b (l.take j) ++ (if ((b.kind != 4) && decide (l[j].block ≥ 0)) = true then [l[j].block.toNat] else []) := by
 unfold hangB
 rw [List.take_succ_eq_append_getElem hj, List.filter_append, List.map_append]
 congr 1
 simp only [List.filter_cons, List.filter_nil]
 split <;> simp
def hangL (d : Dgm) : List (List Nat) := d.blocks.map fun b => hangB b b.src
/-- The diagrams that a diagram has, as the program lists them. -/
def subsB (l : List Blk) : List Nat := (l.filter fun b => b.kind == 7).map fun b => b.sub.toNat
def subsL (f : FileM) : List (List Nat) := f.ds.map fun d => subsB d.blocks
/-- What the map of a diagram's sources holds. -/
abbrev MapM := List ((Int × Int) × Int)
def kS (p : Int × Int) : Value := kV [p.1, p.2]
def mapA (M : MapM) : AO := .map (M.map fun e => kS e.1) (M.map fun e => i64 e.2)
def fIdx : MapM → Int × Int → Option Nat
 | [], _ => none
 | e :: l, p => if p = e.1 then some 0 else (fIdx l p).map (· + 1)
def look (M : MapM) (p : Int × Int) : Option Int := (fIdx M p).bind fun i => (M[i]?).map (·.2)
def upd (M : MapM) (p : Int × Int) (v : Int) : MapM := match fIdx M p with
 | some i => M.set i (p, v)
 | none => M ++ [(p, v)]
theorem vKey_kS (p : Int × Int) : vKey (kS p) = some [p.1, p.2] := by
 simp only [kS, kV, vKey]
 exact vInts_map _
theorem aFindA_eq (p : Int × Int) : ∀ (M : MapM) (i : Nat), aFindA [p.1, p.2] (M.map fun e => kS e.1) i = some ((fIdx M p).map (· + i))
 | [], i => rfl
 | e :: M, i => by
  simp only [List.map_cons, aFindA, vKey_kS, List.length_cons, List.length_nil, if_true, fIdx]
  have hp : ([p.1, p.2] = [e.1.1, e.1.2]) ↔ p = e.1 := by
   simp only [List.cons.injEq, and_true]
   exact ⟨fun h => Prod.ext h.1 h.2, fun h => by rw [h]; exact ⟨rfl, rfl⟩⟩
  by_cases h : p = e.1
  ·rw [if_pos (hp.2 h), if_pos h]
   simp
  ·rw [if_neg (fun g => h (hp.1 g)), if_neg h, aFindA_eq p M (i + 1)]
   cases fIdx M p with
   | none => rfl
   | some j => simp only [Option.map_some, Option.some.injEq]; omega
theorem fIdx_at : ∀ {M : MapM} {p : Int × Int} {i : Nat}, fIdx M p = some i → ∃ h : i < M.length, (M[i]).1 = p
 | [], _, _, h => by cases h
 | e :: M, p, i, h => by
  simp only [fIdx] at h
  split at h
  ·rename_i hp
   cases h
   exact ⟨by simp, hp.symm⟩
  ·obtain ⟨j, hj, rfl⟩ := Option.map_eq_some_iff.1 h
   obtain ⟨h1, h2⟩ := fIdx_at hj
   exact ⟨by simp; omega, by simpa using h2⟩
theorem fIdx_app (M : MapM) (e : (Int × Int) × Int) (p : Int × Int) : fIdx (M ++ [e]) p = match fIdx M p with | some i => some i | none => if p = e.1 then some M.length else none := by
 induction M with
 | nil => simp only [List.nil_append, fIdx]; split <;> rfl
 | cons x M ih =>
  simp only [List.cons_append, fIdx, ih]
  by_cases h : p = x.1
  ·simp [h]
  ·simp only [h, if_false]
   cases fIdx M p with
   | none => simp only [Option.map_none]; split <;> simp
   | some j => rfl
theorem fIdx_set : ∀ {M : MapM} {p : Int × Int} {i : Nat} (v : Int), fIdx M p = some i → ∀ q, fIdx (M.set i (p, v)) q = fIdx M q
 | [], _, _, _, h, _ => by cases h
 | e :: M, p, i, v, h, q => by
  simp only [fIdx] at h
  split at h
  ·rename_i hp
   cases h
   simp only [List.set_cons_zero, fIdx, hp]
  ·obtain ⟨j, hj, rfl⟩ := Option.map_eq_some_iff.1 h
   simp only [List.set_cons_succ, fIdx, fIdx_set v hj q]
theorem fIdx_inj {M : MapM} {p q : Int × Int} {i : Nat} (h1 : fIdx M p = some i) (h2 : fIdx M q = some i) : p = q := by
 obtain ⟨_, a⟩ := fIdx_at h1
 obtain ⟨_, b⟩ := fIdx_at h2
 exact a.symm.trans b
theorem look_upd (M : MapM) (p q : Int × Int) (v : Int) : look (upd M p v) q = if q = p then some v else look M q := by
 unfold upd
 cases h : fIdx M p with
 | none =>
  simp only [look, fIdx_app]
  by_cases e : q = p
  ·subst e
   simp [h]
  ·simp only [e, if_false]
   cases g : fIdx M q with
   | none => rfl
   | some j =>
    obtain ⟨hj, _⟩ := fIdx_at g
    show ((M ++ [(p, v)])[j]?).map (·.2) = (M[j]?).map (·.2)
    rw [List.getElem?_append_left hj]
 | some i =>
  simp only [look, fIdx_set v h]
  obtain ⟨hi, _⟩ := fIdx_at h
  by_cases e : q = p
  ·subst e
   simp [h, hi]
  ·simp only [e, if_false]
   cases g : fIdx M q with
   | none => rfl
   | some j =>
    have hne : ¬ i = j := fun he => e (fIdx_inj g (he ▸ h))
    simp [List.getElem?_set, hne]
theorem u88 : prog.underlying 88 = some (.map 26 3) := by kernel_rfl
theorem agg26 : aggK prog 26 2 = true := by kernel_rfl
theorem map_at {σ : Sto} {o : Nat} {M : MapM} (h : σ[o]? = some (mapA M)) : mapParts σ (.mapo o) = some (M.map (fun e => kS e.1), M.map fun e => i64 e.2) := by simp only [mapParts, h, mapA]
set_option maxRecDepth 100000 in
theorem lk88 {σ : Sto} {o : Nat} {M : MapM} (h : σ[o]? = some (mapA M)) (a b : Int) (ok : Bool) : aLookup prog σ 88 ok (.mapo o) (.agg [i64 a, i64 b]) = some (if ok then .tup [i64 ((look M (a, b)).getD 0), .val (.bool (look M (a, b)).isSome)] else i64 ((look M (a, b)).getD 0)) := by
 have hf := aFindA_eq (a, b) M 0
 simp only [aLookup, u88, map_at h, aInts, Option.map_some, List.length_cons, List.length_nil, Nat.zero_add, Nat.reduceAdd, agg26, if_true, hf, zero3, look]
 cases g : fIdx M (a, b) with
 | none => cases ok <;> rfl
 | some i =>
  obtain ⟨hi, _⟩ := fIdx_at g
  simp only [Option.map_some, Nat.add_zero, Option.bind_some, List.getElem?_map, List.getElem?_eq_getElem hi]
  cases ok <;> rfl
theorem lk88f {σ : Sto} {o : Nat} {M : MapM} (h : σ[o]? = some (mapA M)) (a b : Int) : aLookup prog σ 88 false (.mapo o) (.agg [i64 a, i64 b]) = some (i64 ((look M (a, b)).getD 0)) := lk88 h a b false
theorem lk88t {σ : Sto} {o : Nat} {M : MapM} (h : σ[o]? = some (mapA M)) (a b : Int) : aLookup prog σ 88 true (.mapo o) (.agg [i64 a, i64 b]) = some (.tup [i64 ((look M (a, b)).getD 0), .val (.bool (look M (a, b)).isSome)]) := lk88 h a b true
set_option maxRecDepth 100000 in
theorem up88 {σ : Sto} {o : Nat} {M : MapM} (h : σ[o]? = some (mapA M)) (a b v : Int) : aMapUpd prog σ 88 (.mapo o) (.agg [i64 a, i64 b]) (.val (.int .i64 v)) = some (σ.set o (mapA (upd M (a, b) v))) := by
 have hf := aFindA_eq (a, b) M 0
 simp only [aMapUpd, u88, h, mapA, aInts, Option.map_some, List.length_cons, List.length_nil, Nat.zero_add, Nat.reduceAdd, agg26, if_true, hf, upd]
 cases g : fIdx M (a, b) with
 | none => simp only [Option.map_none, List.map_append, List.map_cons, List.map_nil]; rfl
 | some i =>
  obtain ⟨hi, hp⟩ := fIdx_at g
  simp only [Option.map_some, Nat.add_zero, List.length_map, hi, if_true, List.map_set]
  rw [set_self (l := M.map fun e => kS e.1) (i := i) (a := kS (a, b)) (by rw [List.getElem?_map, List.getElem?_eq_getElem hi, Option.map_some, hp])]
/-- A store in which one map is told anew. -/
def sm (σ : Sto) (om : Nat) (M : MapM) : Sto := σ.set om (mapA M)
theorem sm_len (σ : Sto) (om : Nat) (M : MapM) : (sm σ om M).length = σ.length := by simp [sm]
theorem sm_same {σ : Sto} {om : Nat} {M : MapM} (h : σ[om]? = some (mapA M)) : sm σ om M = σ := set_self h
theorem sm_ne {σ : Sto} {om o : Nat} {M : MapM} {x : AO} (hx : σ[o]? = some x) (h : om ≠ o) (l : Sto) : (sm σ om M ++ l)[o]? = some x := by
 rw [List.getElem?_append_left (by rw [sm_len]; exact (List.getElem?_eq_some_iff.1 hx).1), sm, List.getElem?_set_ne h]
 exact hx
theorem sm_at {σ : Sto} {om : Nat} (h : om < σ.length) (M : MapM) (l : Sto) : (sm σ om M ++ l)[om]? = some (mapA M) := by
 rw [List.getElem?_append_left (by rw [sm_len]; exact h), sm, List.getElem?_set_self h]
theorem sm_set {σ : Sto} {om : Nat} (h : om < σ.length) (M M' : MapM) (l : Sto) : (sm σ om M ++ l).set om (mapA M') = sm σ om M' ++ l := by
 rw [List.set_append_left _ _ (by rw [sm_len]; exact h), sm, sm, List.set_set]
theorem sm_app {σ : Sto} {om : Nat} (h : om < σ.length) (M : MapM) (l : Sto) : sm (σ ++ l) om M = sm σ om M ++ l := by
 rw [sm, sm, List.set_append_left _ _ h]
theorem mkN {n : Nat} (hn : n ≤ 2000) (σ : Sto) (k k1 : IntKind) : aMakeSlice prog σ 85 (.val (.int k (n : Nat))) (.val (.int k1 (n : Nat))) = some (.osl σ.length 0 n 1, σ ++ [.cells (List.replicate n .nilsl)]) := by
 rw [mk85, if_pos ⟨by omega, by simp [fits]; omega⟩, Int.toNat_natCast, Nat.mul_one, aZ]
theorem rowN_still (l : List Nat) : (rowN l).still = rowN l := by unfold rowN; cases l <;> rfl
theorem ap_natN {l : List Nat} (hl : l.length ≤ 4000) (nl : Bool) (n : Nat) (σ : Sto) (k : Nat) : appAt σ nl 1 8 (l.map natA) k [.val (.int .i64 ((n : Nat) : Int))] (some (.cap l.length 1)) = some (.slo nl 1 ((l ++ [n]).map natA) k, σ.set k (.cap (l.length + 1) 1)) := ap_en (en := natA) hl nl (by decide) n σ k
theorem ap_all (l : List Nat) (h0 : l ≠ []) (hn : l.length ≤ 4000) (σ : Sto) (k : Nat) : appAt σ false 1 8 [] k (l.map natA) (some (.cap 0 1)) = some (.slo false 1 (l.map natA) k, σ.set k (.cap l.length 1)) := by
 have h1 : l.length ≠ 0 := fun h => h0 (List.length_eq_zero_iff.1 h)
 have h2 : fits (0 + l.length) 8 = true := by simp [fits]; omega
 simp [appAt, h1, h0, fits]
 omega
theorem frz_rowF {n k : Nat} {σ : Sto} {l : List Nat} (h0 : l ≠ []) (hk : n ≤ k) : Frz n σ (.slo false 1 (l.map natA) k) (.sl 1 (l.map natA)) :=
 .own hk (by simpa using h0) (FrzR.keep (belL_map (n := n) natA l fun _ _ => rfl))
end Fl
end Go.Proofs.Tryd
/-! Flow: function 36. -/
namespace Go.Proofs.Tryd
set_option linter.unusedSimpArgs false
set_option linter.unusedVariables false
open Go Go.Proofs.Ev
namespace Fl
variable {Γ : List (Nat × List AV)} {w : AV} {G : List (Nat × List AV)}
attribute [local go_sem] true_and
set_option maxRecDepth 100000 in
theorem clone_nil : APure prog Γ 36 [.nilsl] .nilsl := by
 refine APure.of func36 rfl fun σ => ?_
 simp only [ntmps36, List.length_cons, List.length_nil, Nat.reduceAdd, Nat.reduceSub, List.replicate_succ, List.replicate_zero, List.cons_append, List.nil_append]
 refine AW.regl false [2] (by rfl) fun K1 hK1 => ?_
 simp only [go_sem, Nat.reduceAdd, Nat.reduceEqDiff, Nat.reduceLeDiff]
 refine hK1 _ _ ?_
 conv => enter [5]; simp only [sl1, sl0, sz0, sz1]
 refine AW.seq_k fun K2 hK2 => ?_
 refine AW.slnil underlying55 rfl NilIs.nil rfl ?_
 conv => enter [5]; simp only [sz0, sz1]
 refine AW.cond rfl (fun hc4 => ?_) (fun hc4 => ?_)
 ·skip
  refine AW.regl false [2] (by rfl) fun K4 hK4 => ?_
  simp only [go_sem, Nat.reduceAdd, Nat.reduceEqDiff, Nat.reduceLeDiff]
  refine hK4 _ _ ?_
  conv => enter [5]; simp only [sl1, sl0, sz0, sz1]
  refine AW.ret ⟨.inr rfl, _, rfl, by simp, ?_⟩
  exact .keep rfl
 ·skip
  exact absurd hc4 (by simp)
set_option maxRecDepth 100000 in
theorem clone_sl (l : List Nat) (h0 : l ≠ []) (hn : l.length ≤ 4000) : APure prog Γ 36 [.sl 1 (l.map natA)] (.sl 1 (l.map natA)) := by
 refine APure.of func36 rfl fun σ => ?_
 simp only [ntmps36, List.length_cons, List.length_nil, Nat.reduceAdd, Nat.reduceSub, List.replicate_succ, List.replicate_zero, List.cons_append, List.nil_append]
 have hap := fun σ k => ap_all l h0 hn σ k
 refine AW.regl false [2] (by rfl) fun K1 hK1 => ?_
 simp only [go_sem, Nat.reduceAdd, Nat.reduceEqDiff, Nat.reduceLeDiff, List.length_map, len_row, one_row, List.drop_zero, blk_len, dgm_len, port_len, out_len, src_len, file_len, src_get, port_get, out_get, blk_get, dgm_get, file_get, dgm_all, blk_all, src_all, port_all, out_all, file_all]
 refine hK1 _ _ ?_
 conv => enter [5]; simp only [sl1, sl0, sz0, sz1]
 refine AW.seq_k fun K2 hK2 => ?_
 refine AW.slnil underlying55 rfl (NilIs.sl 1 (l.map natA)) rfl ?_
 conv => enter [5]; simp only [sz0, sz1]
 refine AW.cond rfl (fun hc4 => ?_) (fun hc4 => ?_)
 ·skip
  exact absurd hc4 (by simp)
 ·skip
  refine AW.skip ?_
  refine hK2 _ _ ?_
  refine AW.regl false [2] (by rfl) fun K4 hK4 => ?_
  simp only [go_sem, Nat.reduceAdd, Nat.reduceEqDiff, Nat.reduceLeDiff, List.length_map, len_row, one_row, List.drop_zero, blk_len, dgm_len, port_len, out_len, src_len, file_len, src_get, port_get, out_get, blk_get, dgm_get, file_get, dgm_all, blk_all, src_all, port_all, out_all, file_all, hap]
  refine hK4 _ _ ?_
  conv => enter [5]; simp only [sl1, sl0, sz0, sz1]
  refine AW.ret ⟨.inr rfl, _, rfl, by simp, ?_⟩
  exact frz_rowF h0 (by omega)
theorem clone_calls (l : List Nat) (hn : l.length ≤ 4000) : APure prog Γ 36 [rowN l] (rowN l) := by
 cases l with
 | nil => exact clone_nil
 | cons a l => exact clone_sl (a :: l) (by simp) hn
end Fl
end Go.Proofs.Tryd
