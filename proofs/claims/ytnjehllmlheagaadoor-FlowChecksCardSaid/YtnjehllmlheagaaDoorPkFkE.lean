import Derived.Test.YtnjehllmlheagaaDoorPkFkB
import Derived.Test.YtnjehllmlheagaaDoorPkFkA
import Derived.Test.YtnjehllmlheagaaDoorPkFkD
/-! What the document says of files. -/
namespace Go.Proofs.Tryd
set_option linter.unusedSimpArgs false
set_option linter.unusedVariables false
open Go Go.Proofs.Ev
variable {Γ : List (Nat × List AV)}
attribute [local go_sem] true_and List.length_map rdgm_get dgm_all file_all
set_option maxRecDepth 100000 in
theorem great_calls (f : FileM) (hf : f.ok) : APure prog Γ 9 [f.enc] (.val (.bool f.great)) := by
 refine APure.of func9 rfl fun σ => ?_
 simp only [ntmps9, List.length_cons, List.length_nil, Nat.reduceAdd, Nat.reduceSub, List.replicate_succ, List.replicate_zero, List.cons_append, List.nil_append]
 have hf0 := file_all f
 refine AW.regl false [1, 2] (by rfl) fun K1 hK1 => ?_
 simp only [go_sem, Nat.reduceAdd, Nat.reduceEqDiff, Nat.reduceLeDiff]
 refine hK1 _ _ ?_
 conv => enter [5]; simp only [sl1, sl0, sz0, sz1]
 refine AW.seq_k fun K2 hK2 => ?_
 refine AW.regl false [3] (by rfl) fun K3 hK3 => ?_
 simp only [go_sem, Nat.reduceAdd, Nat.reduceEqDiff, Nat.reduceLeDiff]
 refine hK3 _ _ ?_
 conv => enter [5]; simp only [sl1, sl0, sz0, sz1]
 refine AW.block ?_
 -- LIVE but not told: [14, 15, 29, 30, 31, 32, 35, 36, 37, 38, 41, 42, 43, 44]
 refine AW.loop_dr (α := Nat) (fun i => [.any, (.ref σ.length 0), .any, (.val (.int .i64 (i : Nat))), .any, .any, .any, .any, .any, .any, .any, .any, .any, .any, .any, .any, .any, .any, .any, .any, .any, .any, .any, .any, .any, .any, .any, .any, .any, .any, .any, .any, .any, .any, .any, .any, .any, .any, .any, .any, .any, .any, .any, .any, .any, .any, .any, .any, .any, .any, .any, .any, .any, .any, .any, .any, .any, .any, .any, .any, .any, .any, .any, .any, .any, .any, .any, .any, .any, .any, .any, .any, .any, .any, .any, .any, .any, .any, .any, .any, .any, .any, .any, .any, .any, .any, .any, .any, .any, .any, .any, .any, .any, .any, .any, .any]) (fun i => σ ++ [.cells f.enc.cells]) (fun i => f.ds.length - i) (fun i => i ≤ f.ds.length ∧ i ≤ 13 ∧ (f.ds.take i).any Dgm.great = false) 0 ?_ ?_ ?_
 ·exact ⟨⟨Nat.zero_le _, Nat.zero_le _, rfl⟩, by simp [Wk], rfl⟩
 ·exact fun y _ => ⟨by simp [belL, AV.bel], bel_one⟩
 ·rintro i ⟨hi, hi13, hit⟩
  refine AW.seq_k fun K4 hK4 => ?_
  -- LIVE [14, 15, 16]
  refine AW.regtf false 16 (.val (.bool (decide ((i : Int) < (f.ds.length : Int)) && decide ((i : Int) ≤ 12)))) (by rfl) ?_ ?_
  ·skip
   cases h12 : (decide ((i : Int) < (f.ds.length : Int)))
   ·skip
    simp only [go_sem, Nat.reduceAdd, Nat.reduceEqDiff, Nat.reduceLeDiff, FileM.enc, h12]
    try simp [upd_at, h12, List.length_map, rdgm_get, dgm_all, file_all, FileM.enc]
   ·skip
    simp only [go_sem, Nat.reduceAdd, Nat.reduceEqDiff, Nat.reduceLeDiff, FileM.enc, h12]
    try simp [upd_at, h12, List.length_map, rdgm_get, dgm_all, file_all, FileM.enc]
  conv => enter [5]; simp only [sz0, sz1]
  refine AW.cond rfl (fun hc16 => ?_) (fun hc16 => ?_)
  ·skip
   have hi0 : i < f.ds.length ∧ i ≤ 12 := by simp only [Bool.and_eq_true, decide_eq_true_eq] at hc16; omega
   have hi1 := hi0.1
   obtain ⟨d, hd⟩ : ∃ d, d = f.ds[i] := ⟨_, rfl⟩
   have hx : (f.ds.map Dgm.enc)[i]? = some d.enc := by rw [hd]; simp [hi1]
   have hdm : d ∈ f.ds.take 13 := by rw [hd]; exact List.mem_take_iff_getElem.2 ⟨i, by omega, rfl⟩
   refine AW.skip ?_
   refine hK4 _ _ ?_
   refine AW.seq_k fun K6 hK6 => ?_
   refine AW.block ?_
   refine AW.regl false [4] (by rfl) fun K7 hK7 => ?_
   simp only [go_sem, Nat.reduceAdd, Nat.reduceEqDiff, Nat.reduceLeDiff, FileM.enc, at_row hx]
   refine hK7 _ _ ?_
   conv => enter [5]; simp only [sl1, sl0, sz0, sz1, upd_none, upd_at]
   refine AW.seq_k fun K8 hK8 => ?_
   -- LIVE [29, 30, 31, 32, 35, 36, 37, 38, 41, 42, 43, 44, 45]
   refine AW.regtf false 45 (.val (.bool (((decide ((d.ins.length : Int) > 40) || decide ((d.outs.length : Int) > 40)) || decide ((d.blocks.length : Int) > 200)) || decide ((d.name.size : Int) > 300)))) (by rfl) ?_ ?_
   ·skip
    cases h27 : (decide ((d.ins.length : Int) > 40))
    ·skip
     cases h32 : (decide ((d.outs.length : Int) > 40))
     ·skip
      cases h38 : (decide ((d.blocks.length : Int) > 200))
      ·skip
       simp only [go_sem, Nat.reduceAdd, Nat.reduceEqDiff, Nat.reduceLeDiff, Dgm.enc, h27, h32, h38]
       try simp [upd_at, h27, h32, h38, List.length_map, rdgm_get, dgm_all, file_all, Dgm.enc]
      ·skip
       simp only [go_sem, Nat.reduceAdd, Nat.reduceEqDiff, Nat.reduceLeDiff, Dgm.enc, h27, h32, h38]
       try simp [upd_at, h27, h32, h38, List.length_map, rdgm_get, dgm_all, file_all, Dgm.enc]
     ·skip
      simp only [go_sem, Nat.reduceAdd, Nat.reduceEqDiff, Nat.reduceLeDiff, Dgm.enc, h27, h32]
      try simp [upd_at, h27, h32, List.length_map, rdgm_get, dgm_all, file_all, Dgm.enc]
    ·skip
     simp only [go_sem, Nat.reduceAdd, Nat.reduceEqDiff, Nat.reduceLeDiff, Dgm.enc, h27]
     try simp [upd_at, h27, List.length_map, rdgm_get, dgm_all, file_all, Dgm.enc]
   conv => enter [5]; simp only [sz0, sz1]
   refine AW.cond rfl (fun hc45 => ?_) (fun hc45 => ?_)
   ·skip
    refine AW.regl false [2] (by rfl) fun K10 hK10 => ?_
    simp only [go_sem, Nat.reduceAdd, Nat.reduceEqDiff, Nat.reduceLeDiff]
    refine hK10 _ _ ?_
    conv => enter [5]; simp only [sl1, sl0, sz0, sz1]
    refine AW.ret ⟨.inr rfl, _, rfl, by simp, ?_⟩
    refine frzB ?_
    have : d.great = true := by simp only [Dgm.great, hc45, Bool.true_or]
    simp only [FileM.great, List.any_eq_true.2 ⟨d, hdm, this⟩, Bool.true_or]
   ·skip
    have hsz : d.ins.length ≤ 40 ∧ d.outs.length ≤ 40 ∧ d.blocks.length ≤ 200 := by simp only [Bool.or_eq_false_iff, decide_eq_false_iff_not] at hc45; omega
    refine AW.skip ?_
    refine hK8 _ _ ?_
    refine AW.seq_k fun K11 hK11 => ?_
    refine AW.regl false [5] (by rfl) fun K12 hK12 => ?_
    simp only [go_sem, Nat.reduceAdd, Nat.reduceEqDiff, Nat.reduceLeDiff]
    refine hK12 _ _ ?_
    conv => enter [5]; simp only [sl1, sl0, sz0, sz1]
    refine AW.block ?_
    -- LIVE but not told: [14, 15, 29, 30, 31, 32, 35, 36, 37, 38, 41, 42, 43, 44]
    refine AW.loop_wk (α := Nat) (fun j => [.any, (.ref σ.length 0), .any, (.val (.int .i64 (i : Nat))), (.ref (σ.length + 1) 0), (.val (.int .i64 (j : Nat))), .any, .any, .any, .any, .any, .any, .any, .any, .any, .any, .any, .any, .any, .any, .any, .any, .any, .any, .any, .any, .any, .any, .any, .any, .any, .any, .any, .any, .any, .any, .any, .any, .any, .any, .any, .any, .any, .any, .any, .any, .any, .any, .any, .any, .any, .any, .any, .any, .any, .any, .any, .any, .any, .any, .any, .any, .any, .any, .any, .any, .any, .any, .any, .any, .any, .any, .any, .any, .any, .any, .any, .any, .any, .any, .any, .any, .any, .any, .any, .any, .any, .any, .any, .any, .any, .any, .any, .any, .any, .any]) (fun j => σ ++ [.cells f.enc.cells, .cells d.enc.cells]) (fun j => d.ins.length - j) (fun j => j ≤ d.ins.length ∧ (d.ins.take j).any PortM.great = false) 0 ?_ ?_
    ·exact ⟨⟨Nat.zero_le _, rfl⟩, by simp [Wk], rfl⟩
    ·rintro j ⟨hj, hjt⟩
     refine AW.seq_k fun K13 hK13 => ?_
     refine AW.regl false [50] (by rfl) fun K14 hK14 => ?_
     simp only [go_sem, Nat.reduceAdd, Nat.reduceEqDiff, Nat.reduceLeDiff, Dgm.enc]
     refine hK14 _ _ ?_
     conv => enter [5]; simp only [sl1, sl0, sz0, sz1]
     refine AW.cond rfl (fun hc50 => ?_) (fun hc50 => ?_)
     ·skip
      have hj1 : j < d.ins.length := by simpa using hc50
      have hy : (d.ins.map PortM.enc)[j]? = some (d.ins[j]).enc := by simp [hj1]
      refine AW.skip ?_
      refine hK13 _ _ ?_
      refine AW.seq_k fun K15 hK15 => ?_
      refine AW.block ?_
      refine AW.regl false [60] (by rfl) fun K16 hK16 => ?_
      simp only [go_sem, Nat.reduceAdd, Nat.reduceEqDiff, Nat.reduceLeDiff, Dgm.enc, at_row hy, PortM.enc]
      refine hK16 _ _ ?_
      conv => enter [5]; simp only [sl1, sl0, sz0, sz1]
      refine AW.cond rfl (fun hc60 => ?_) (fun hc60 => ?_)
      ·skip
       refine AW.regl false [2] (by rfl) fun K17 hK17 => ?_
       simp only [go_sem, Nat.reduceAdd, Nat.reduceEqDiff, Nat.reduceLeDiff]
       refine hK17 _ _ ?_
       conv => enter [5]; simp only [sl1, sl0, sz0, sz1]
       refine AW.ret ⟨.inr rfl, _, rfl, by simp, ?_⟩
       refine frzB ?_
       have h1 : (d.ins.any PortM.great) = true := any_at hj1 hc60
       have : d.great = true := by simp only [Dgm.great, h1, Bool.true_or, Bool.or_true]
       simp only [FileM.great, List.any_eq_true.2 ⟨d, hdm, this⟩, Bool.true_or]
      ·skip
       refine AW.skip ?_
       refine hK15 _ _ ?_
       refine AW.lastl false [5] (by rfl) fun K hK => ?_
       simp only [go_sem, Nat.reduceAdd, Nat.reduceEqDiff, Nat.reduceLeDiff]
       refine hK _ _ fun env' hw => ?_
       simp only [setL_cons, setL_nil, List.set_cons_zero, List.set_cons_succ] at hw
       refine ⟨j + 1, by omega, ⟨by omega, any_step hj1 hjt hc60⟩, ?_, rfl⟩
       refine hw.trans ?_
       simp [Wk, wrap_succ (show j < 1000 by omega) (by decide)]
     ·skip
      have hj1' : ¬ j < d.ins.length := by simpa using hc50
      have hA := any_end hj1' hjt
      refine AW.exit ?_
      refine hK11 _ _ ?_
      refine AW.seq_k fun K18 hK18 => ?_
      refine AW.regl false [6] (by rfl) fun K19 hK19 => ?_
      simp only [go_sem, Nat.reduceAdd, Nat.reduceEqDiff, Nat.reduceLeDiff]
      refine hK19 _ _ ?_
      conv => enter [5]; simp only [sl1, sl0, sz0, sz1]
      refine AW.block ?_
      -- LIVE but not told: [14, 15, 29, 30, 31, 32, 35, 36, 37, 38, 41, 42, 43, 44]
      refine AW.loop_wk (α := Nat) (fun j => [.any, (.ref σ.length 0), .any, (.val (.int .i64 (i : Nat))), (.ref (σ.length + 1) 0), .any, (.val (.int .i64 (j : Nat))), .any, .any, .any, .any, .any, .any, .any, .any, .any, .any, .any, .any, .any, .any, .any, .any, .any, .any, .any, .any, .any, .any, .any, .any, .any, .any, .any, .any, .any, .any, .any, .any, .any, .any, .any, .any, .any, .any, .any, .any, .any, .any, .any, .any, .any, .any, .any, .any, .any, .any, .any, .any, .any, .any, .any, .any, .any, .any, .any, .any, .any, .any, .any, .any, .any, .any, .any, .any, .any, .any, .any, .any, .any, .any, .any, .any, .any, .any, .any, .any, .any, .any, .any, .any, .any, .any, .any, .any, .any]) (fun j => σ ++ [.cells f.enc.cells, .cells d.enc.cells]) (fun j => d.outs.length - j) (fun j => j ≤ d.outs.length ∧ (d.outs.take j).any OutM.great = false) 0 ?_ ?_
      ·exact ⟨⟨Nat.zero_le _, rfl⟩, by simp [Wk], rfl⟩
      ·rintro j ⟨hj, hjt⟩
       refine AW.seq_k fun K20 hK20 => ?_
       refine AW.regl false [65] (by rfl) fun K21 hK21 => ?_
       simp only [go_sem, Nat.reduceAdd, Nat.reduceEqDiff, Nat.reduceLeDiff, Dgm.enc]
       refine hK21 _ _ ?_
       conv => enter [5]; simp only [sl1, sl0, sz0, sz1]
       refine AW.cond rfl (fun hc65 => ?_) (fun hc65 => ?_)
       ·skip
        have hj1 : j < d.outs.length := by simpa using hc65
        have hy : (d.outs.map OutM.enc)[j]? = some (d.outs[j]).enc := by simp [hj1]
        refine AW.skip ?_
        refine hK20 _ _ ?_
        refine AW.seq_k fun K22 hK22 => ?_
        refine AW.block ?_
        refine AW.regl false [76] (by rfl) fun K23 hK23 => ?_
        simp only [go_sem, Nat.reduceAdd, Nat.reduceEqDiff, Nat.reduceLeDiff, Dgm.enc, at_row hy, OutM.enc]
        refine hK23 _ _ ?_
        conv => enter [5]; simp only [sl1, sl0, sz0, sz1]
        refine AW.cond rfl (fun hc76 => ?_) (fun hc76 => ?_)
        ·skip
         refine AW.regl false [2] (by rfl) fun K24 hK24 => ?_
         simp only [go_sem, Nat.reduceAdd, Nat.reduceEqDiff, Nat.reduceLeDiff]
         refine hK24 _ _ ?_
         conv => enter [5]; simp only [sl1, sl0, sz0, sz1]
         refine AW.ret ⟨.inr rfl, _, rfl, by simp, ?_⟩
         refine frzB ?_
         have h1 : (d.outs.any OutM.great) = true := any_at hj1 hc76
         have : d.great = true := by simp only [Dgm.great, h1, Bool.true_or, Bool.or_true]
         simp only [FileM.great, List.any_eq_true.2 ⟨d, hdm, this⟩, Bool.true_or]
        ·skip
         refine AW.skip ?_
         refine hK22 _ _ ?_
         refine AW.lastl false [6] (by rfl) fun K hK => ?_
         simp only [go_sem, Nat.reduceAdd, Nat.reduceEqDiff, Nat.reduceLeDiff]
         refine hK _ _ fun env' hw => ?_
         simp only [setL_cons, setL_nil, List.set_cons_zero, List.set_cons_succ] at hw
         refine ⟨j + 1, by omega, ⟨by omega, any_step hj1 hjt hc76⟩, ?_, rfl⟩
         refine hw.trans ?_
         simp [Wk, wrap_succ (show j < 1000 by omega) (by decide)]
       ·skip
        have hj1' : ¬ j < d.outs.length := by simpa using hc65
        have hB := any_end hj1' hjt
        refine AW.exit ?_
        refine hK18 _ _ ?_
        refine AW.regl false [7] (by rfl) fun K25 hK25 => ?_
        simp only [go_sem, Nat.reduceAdd, Nat.reduceEqDiff, Nat.reduceLeDiff]
        refine hK25 _ _ ?_
        conv => enter [5]; simp only [sl1, sl0, sz0, sz1]
        refine AW.block ?_
        -- LIVE but not told: [14, 15, 29, 30, 31, 32, 35, 36, 37, 38, 41, 42, 43, 44]
        refine AW.loop_wk (α := Nat) (fun j => [.any, (.ref σ.length 0), .any, (.val (.int .i64 (i : Nat))), (.ref (σ.length + 1) 0), .any, .any, (.val (.int .i64 (j : Nat))), .any, .any, .any, .any, .any, .any, .any, .any, .any, .any, .any, .any, .any, .any, .any, .any, .any, .any, .any, .any, .any, .any, .any, .any, .any, .any, .any, .any, .any, .any, .any, .any, .any, .any, .any, .any, .any, .any, .any, .any, .any, .any, .any, .any, .any, .any, .any, .any, .any, .any, .any, .any, .any, .any, .any, .any, .any, .any, .any, .any, .any, .any, .any, .any, .any, .any, .any, .any, .any, .any, .any, .any, .any, .any, .any, .any, .any, .any, .any, .any, .any, .any, .any, .any, .any, .any, .any, .any]) (fun j => σ ++ [.cells f.enc.cells, .cells d.enc.cells]) (fun j => d.blocks.length - j) (fun j => j ≤ d.blocks.length ∧ (d.blocks.take j).any Blk.great = false) 0 ?_ ?_
        ·exact ⟨⟨Nat.zero_le _, rfl⟩, by simp [Wk], rfl⟩
        ·rintro j ⟨hj, hjt⟩
         refine AW.seq_k fun K26 hK26 => ?_
         refine AW.regl false [81] (by rfl) fun K27 hK27 => ?_
         simp only [go_sem, Nat.reduceAdd, Nat.reduceEqDiff, Nat.reduceLeDiff, Dgm.enc]
         refine hK27 _ _ ?_
         conv => enter [5]; simp only [sl1, sl0, sz0, sz1]
         refine AW.cond rfl (fun hc81 => ?_) (fun hc81 => ?_)
         ·skip
          have hj1 : j < d.blocks.length := by simpa using hc81
          have hy : (d.blocks.map Blk.enc)[j]? = some (d.blocks[j]).enc := by simp [hj1]
          refine AW.skip ?_
          refine hK26 _ _ ?_
          refine AW.seq_k fun K28 hK28 => ?_
          refine AW.block ?_
          refine AW.regl false [91] (by rfl) fun K29 hK29 => ?_
          simp only [go_sem, Nat.reduceAdd, Nat.reduceEqDiff, Nat.reduceLeDiff, Dgm.enc, at_row hy, Blk.enc]
          refine hK29 _ _ ?_
          conv => enter [5]; simp only [sl1, sl0, sz0, sz1]
          refine AW.cond rfl (fun hc91 => ?_) (fun hc91 => ?_)
          ·skip
           refine AW.regl false [2] (by rfl) fun K30 hK30 => ?_
           simp only [go_sem, Nat.reduceAdd, Nat.reduceEqDiff, Nat.reduceLeDiff]
           refine hK30 _ _ ?_
           conv => enter [5]; simp only [sl1, sl0, sz0, sz1]
           refine AW.ret ⟨.inr rfl, _, rfl, by simp, ?_⟩
           refine frzB ?_
           have h1 : (d.blocks.any Blk.great) = true := any_at hj1 hc91
           have : d.great = true := by simp only [Dgm.great, h1, Bool.true_or, Bool.or_true]
           simp only [FileM.great, List.any_eq_true.2 ⟨d, hdm, this⟩, Bool.true_or]
          ·skip
           refine AW.skip ?_
           refine hK28 _ _ ?_
           refine AW.lastl false [7] (by rfl) fun K hK => ?_
           simp only [go_sem, Nat.reduceAdd, Nat.reduceEqDiff, Nat.reduceLeDiff]
           refine hK _ _ fun env' hw => ?_
           simp only [setL_cons, setL_nil, List.set_cons_zero, List.set_cons_succ] at hw
           refine ⟨j + 1, by omega, ⟨by omega, any_step hj1 hjt hc91⟩, ?_, rfl⟩
           refine hw.trans ?_
           simp [Wk, wrap_succ (show j < 1000 by omega) (by decide)]
         ·skip
          have hj1' : ¬ j < d.blocks.length := by simpa using hc81
          have hC := any_end hj1' hjt
          refine AW.exit ?_
          refine hK6 _ _ ?_
          refine AW.lastl false [3] (by rfl) fun K hK => ?_
          simp only [go_sem, Nat.reduceAdd, Nat.reduceEqDiff, Nat.reduceLeDiff]
          refine hK _ _ fun env' hw => ?_
          simp only [setL_cons, setL_nil, List.set_cons_zero, List.set_cons_succ] at hw
          refine ⟨i + 1, by omega, ⟨by omega, by omega, any_step hi1 hit (by rw [← hd]; simp only [Dgm.great, hA, hB, hC, hc45, Bool.or_self])⟩, ?_, by simp [List.take_append, List.take_of_length_le]⟩
          refine hw.trans ?_
          simp [Wk, wrap_succ (show i < 1000 by omega) (by decide)]
  ·skip
   have hi0 : ¬ (i < f.ds.length ∧ i ≤ 12) := by simp only [Bool.and_eq_false_iff, decide_eq_false_iff_not] at hc16; omega
   refine AW.exit ?_
   refine hK2 _ _ ?_
   refine AW.regl false [2] (by rfl) fun K31 hK31 => ?_
   simp only [go_sem, Nat.reduceAdd, Nat.reduceEqDiff, Nat.reduceLeDiff, FileM.enc]
   refine hK31 _ _ ?_
   conv => enter [5]; simp only [sl1, sl0, sz0, sz1]
   refine AW.ret ⟨.inr rfl, _, rfl, by simp, ?_⟩
   refine frzB ?_
   have h1 : f.ds.take 13 = f.ds.take i := by
    rcases Nat.lt_or_ge i 13 with h | h
    ·rw [List.take_of_length_le (by omega), List.take_of_length_le (by omega)]
    ·rw [show i = 13 by omega]
   simp only [FileM.great, h1, hit, Bool.false_or]

set_option maxRecDepth 100000 in
set_option maxHeartbeats 1000000 in
theorem rright_calls (f : FileM) (hs : f.small) : APure prog Γ 32 [f.enc] (.val (.bool f.rright)) := by
 refine APure.of func32 rfl fun σ => ?_
 simp only [ntmps32, List.length_cons, List.length_nil, Nat.reduceAdd, Nat.reduceSub, List.replicate_succ, List.replicate_zero, List.cons_append, List.nil_append]
 refine AW.regl false [1, 2] (by rfl) fun K1 hK1 => ?_
 simp only [go_sem, Nat.reduceAdd, Nat.reduceEqDiff, Nat.reduceLeDiff, blk_all, rfile_get, rsrc_get, rblk_get]
 refine hK1 _ _ ?_
 conv => enter [5]; simp only [sl1, sl0, sz0, sz1]
 refine AW.seq_k fun K2 hK2 => ?_
 refine AW.regl false [3] (by rfl) fun K3 hK3 => ?_
 simp only [go_sem, Nat.reduceAdd, Nat.reduceEqDiff, Nat.reduceLeDiff, blk_all, rfile_get, rsrc_get, rblk_get]
 refine hK3 _ _ ?_
 conv => enter [5]; simp only [sl1, sl0, sz0, sz1]
 refine AW.block ?_
 -- LIVE but not told: [43, 44, 45, 46, 47, 48, 49, 50, 70, 71, 72, 73, 74, 75, 76, 77, 80, 81, 82, 83, 84, 85, 86, 87, 88, 89]
 refine AW.loop_dr (α := Nat) (fun i => [.any, (.ref σ.length 0), .any, (.val (.int .i64 (i : Nat))), .any, .any, .any, .any, .any, .any, .any, .any, .any, .any, .any, .any, .any, .any, .any, .any, .any, .any, .any, .any, .any, .any, .any, .any, .any, .any, .any, .any, .any, .any, .any, .any, .any, .any, .any, .any, .any, .any, .any, .any, .any, .any, .any, .any, .any, .any, .any, .any, .any, .any, .any, .any, .any, .any, .any, .any, .any, .any, .any, .any, .any, .any, .any, .any, .any, .any, .any, .any, .any, .any, .any, .any, .any, .any, .any, .any, .any, .any, .any, .any, .any, .any, .any, .any, .any, .any, .any, .any, .any, .any, .any, .any, .any, .any, .any, .any, .any, .any, .any, .any, .any, .any, .any]) (fun i => σ ++ [.cells f.enc.cells]) (fun i => f.ds.length - i) (fun i => i ≤ f.ds.length ∧ (f.ds.take i).any f.rbad = false) 0 ?_ ?_ ?_
 ·exact ⟨⟨Nat.zero_le _, rfl⟩, by simp [Wk], rfl⟩
 ·exact fun y _ => ⟨by simp [belL, AV.bel], bel_one⟩
 ·rintro i ⟨hi, hit⟩
  refine AW.seq_k fun K4 hK4 => ?_
  refine AW.regl false [14] (by rfl) fun K5 hK5 => ?_
  simp only [go_sem, Nat.reduceAdd, Nat.reduceEqDiff, Nat.reduceLeDiff, blk_all, rfile_get, rsrc_get, rblk_get, FileM.enc]
  refine hK5 _ _ ?_
  conv => enter [5]; simp only [sl1, sl0, sz0, sz1]
  refine AW.cond rfl (fun hc14 => ?_) (fun hc14 => ?_)
  ·skip
   have hi1 : i < f.ds.length := by simpa using hc14
   obtain ⟨d, hd⟩ : ∃ d, d = f.ds[i] := ⟨_, rfl⟩
   have hx : (f.ds.map Dgm.enc)[i]? = some d.enc := by rw [hd]; simp [hi1]
   have hdm : d ∈ f.ds := by rw [hd]; exact List.getElem_mem hi1
   obtain ⟨k1, k2, k3, k4, k5⟩ := hs.2 d hdm
   have hs1 := hs.1
   refine AW.skip ?_
   refine hK4 _ _ ?_
   refine AW.seq_k fun K6 hK6 => ?_
   refine AW.block ?_
   refine AW.regl false [4] (by rfl) fun K7 hK7 => ?_
   simp only [go_sem, Nat.reduceAdd, Nat.reduceEqDiff, Nat.reduceLeDiff, blk_all, rfile_get, rsrc_get, rblk_get, FileM.enc, at_row hx]
   refine hK7 _ _ ?_
   conv => enter [5]; simp only [sl1, sl0, sz0, sz1, upd_none, upd_at]
   refine AW.seq_k fun K8 hK8 => ?_
   refine AW.regl false [25] (by rfl) fun K9 hK9 => ?_
   simp only [go_sem, Nat.reduceAdd, Nat.reduceEqDiff, Nat.reduceLeDiff, blk_all, rfile_get, rsrc_get, rblk_get, Dgm.enc]
   refine hK9 _ _ ?_
   conv => enter [5]; simp only [sl1, sl0, sz0, sz1]
   refine AW.cond rfl (fun hc25 => ?_) (fun hc25 => ?_)
   ·skip
    refine AW.regl false [2] (by rfl) fun K10 hK10 => ?_
    simp only [go_sem, Nat.reduceAdd, Nat.reduceEqDiff, Nat.reduceLeDiff, blk_all, rfile_get, rsrc_get, rblk_get]
    refine hK10 _ _ ?_
    conv => enter [5]; simp only [sl1, sl0, sz0, sz1]
    refine AW.ret ⟨.inr rfl, _, rfl, by simp, ?_⟩
    refine frzB ?_
    have : f.rbad d = true := by simp only [FileM.rbad, hc25, Bool.true_or]
    simp only [FileM.rright, List.any_eq_true.2 ⟨d, hdm, this⟩, Bool.not_true]
   ·skip
    refine AW.skip ?_
    refine hK8 _ _ ?_
    refine AW.seq_k fun K11 hK11 => ?_
    refine AW.regl false [5] (by rfl) fun K12 hK12 => ?_
    simp only [go_sem, Nat.reduceAdd, Nat.reduceEqDiff, Nat.reduceLeDiff, blk_all, rfile_get, rsrc_get, rblk_get]
    refine hK12 _ _ ?_
    conv => enter [5]; simp only [sl1, sl0, sz0, sz1]
    refine AW.block ?_
    -- LIVE but not told: [43, 44, 45, 46, 47, 48, 49, 50, 70, 71, 72, 73, 74, 75, 76, 77, 80, 81, 82, 83, 84, 85, 86, 87, 88, 89]
    refine AW.loop_dr (α := Nat) (fun j => [.any, (.ref σ.length 0), .any, (.val (.int .i64 (i : Nat))), (.ref (σ.length + 1) 0), (.val (.int .i64 (j : Nat))), .any, .any, .any, .any, .any, .any, .any, .any, .any, .any, .any, .any, .any, .any, .any, .any, .any, .any, .any, .any, .any, .any, .any, .any, .any, .any, .any, .any, .any, .any, .any, .any, .any, .any, .any, .any, .any, .any, .any, .any, .any, .any, .any, .any, .any, .any, .any, .any, .any, .any, .any, .any, .any, .any, .any, .any, .any, .any, .any, .any, .any, .any, .any, .any, .any, .any, .any, .any, .any, .any, .any, .any, .any, .any, .any, .any, .any, .any, .any, .any, .any, .any, .any, .any, .any, .any, .any, .any, .any, .any, .any, .any, .any, .any, .any, .any, .any, .any, .any, .any, .any]) (fun j => σ ++ [.cells f.enc.cells, .cells d.enc.cells]) (fun j => d.ins.length - j) (fun j => j ≤ d.ins.length ∧ (d.ins.take j).any PortM.bad = false) 0 ?_ ?_ ?_
    ·exact ⟨⟨Nat.zero_le _, rfl⟩, by simp [Wk], rfl⟩
    ·exact fun y _ => ⟨by simp [belL, AV.bel], bel_one⟩
    ·rintro j ⟨hj, hjt⟩
     refine AW.seq_k fun K13 hK13 => ?_
     refine AW.regl false [30] (by rfl) fun K14 hK14 => ?_
     simp only [go_sem, Nat.reduceAdd, Nat.reduceEqDiff, Nat.reduceLeDiff, blk_all, rfile_get, rsrc_get, rblk_get, Dgm.enc]
     refine hK14 _ _ ?_
     conv => enter [5]; simp only [sl1, sl0, sz0, sz1]
     refine AW.cond rfl (fun hc30 => ?_) (fun hc30 => ?_)
     ·skip
      have hj1 : j < d.ins.length := by simpa using hc30
      obtain ⟨p, hv⟩ : ∃ p, p = d.ins[j] := ⟨_, rfl⟩
      have hy : (d.ins.map PortM.enc)[j]? = some p.enc := by rw [hv]; simp [hj1]
      refine AW.skip ?_
      refine hK13 _ _ ?_
      refine AW.seq_k fun K15 hK15 => ?_
      refine AW.block ?_
      refine AW.regl false [6] (by rfl) fun K16 hK16 => ?_
      simp only [go_sem, Nat.reduceAdd, Nat.reduceEqDiff, Nat.reduceLeDiff, blk_all, rfile_get, rsrc_get, rblk_get, Dgm.enc, at_row hy, PortM.enc]
      refine hK16 _ _ ?_
      conv => enter [5]; simp only [sl1, sl0, sz0, sz1, upd_none, upd_at]
      -- LIVE [43, 44, 45, 46, 47, 48, 49, 50, 51]
      refine AW.regtf false 51 (.val (.bool (decide ((p.name.size : Int) > 65535) || (p.type != 0 && p.type != 1)))) (by rfl) ?_ ?_
      ·skip
       cases h41 : (decide ((p.name.size : Int) > 65535))
       ·skip
        cases h45 : (p.type != 0)
        ·skip
         simp only [go_sem, Nat.reduceAdd, Nat.reduceEqDiff, Nat.reduceLeDiff, blk_all, rfile_get, rsrc_get, rblk_get, h41, h45]
         try simp [upd_at, h41, h45, List.length_map, rdgm_get, dgm_all, file_all, blk_all, rfile_get, rsrc_get, rblk_get]
        ·skip
         simp only [go_sem, Nat.reduceAdd, Nat.reduceEqDiff, Nat.reduceLeDiff, blk_all, rfile_get, rsrc_get, rblk_get, h41, h45]
         try simp [upd_at, h41, h45, List.length_map, rdgm_get, dgm_all, file_all, blk_all, rfile_get, rsrc_get, rblk_get]
       ·skip
        simp only [go_sem, Nat.reduceAdd, Nat.reduceEqDiff, Nat.reduceLeDiff, blk_all, rfile_get, rsrc_get, rblk_get, h41]
        try simp [upd_at, h41, List.length_map, rdgm_get, dgm_all, file_all, blk_all, rfile_get, rsrc_get, rblk_get]
      conv => enter [5]; simp only [sz0, sz1]
      refine AW.cond rfl (fun hc51 => ?_) (fun hc51 => ?_)
      ·skip
       refine AW.regl false [2] (by rfl) fun K18 hK18 => ?_
       simp only [go_sem, Nat.reduceAdd, Nat.reduceEqDiff, Nat.reduceLeDiff, blk_all, rfile_get, rsrc_get, rblk_get]
       refine hK18 _ _ ?_
       conv => enter [5]; simp only [sl1, sl0, sz0, sz1]
       refine AW.ret ⟨.inr rfl, _, rfl, by simp, ?_⟩
       refine frzB ?_
       have h1 : (d.ins.any PortM.bad) = true := any_at hj1 (by rw [← hv]; exact hc51)
       have : f.rbad d = true := by simp only [FileM.rbad, h1, Bool.true_or, Bool.or_true]
       simp only [FileM.rright, List.any_eq_true.2 ⟨d, hdm, this⟩, Bool.not_true]
      ·skip
       refine AW.skip ?_
       refine hK15 _ _ ?_
       refine AW.lastl false [5] (by rfl) fun K hK => ?_
       simp only [go_sem, Nat.reduceAdd, Nat.reduceEqDiff, Nat.reduceLeDiff, blk_all, rfile_get, rsrc_get, rblk_get]
       refine hK _ _ fun env' hw => ?_
       simp only [setL_cons, setL_nil, List.set_cons_zero, List.set_cons_succ] at hw
       refine ⟨j + 1, by omega, ⟨by omega, any_step hj1 hjt (by rw [← hv]; exact hc51)⟩, ?_, by simp [List.take_append, List.take_of_length_le, Dgm.enc, AV.cells]⟩
       refine hw.trans ?_
       simp [Wk, wrap_succ (show j < 1000 by omega) (by decide)]
     ·skip
      have hj1 : ¬ j < d.ins.length := by simpa using hc30
      have hA := any_end hj1 hjt
      refine AW.exit ?_
      refine hK11 _ _ ?_
      refine AW.seq_k fun K19 hK19 => ?_
      refine AW.regl false [7] (by rfl) fun K20 hK20 => ?_
      simp only [go_sem, Nat.reduceAdd, Nat.reduceEqDiff, Nat.reduceLeDiff, blk_all, rfile_get, rsrc_get, rblk_get]
      refine hK20 _ _ ?_
      conv => enter [5]; simp only [sl1, sl0, sz0, sz1]
      refine AW.block ?_
      -- LIVE but not told: [43, 44, 45, 46, 47, 48, 49, 50, 70, 71, 72, 73, 74, 75, 76, 77, 80, 81, 82, 83, 84, 85, 86, 87, 88, 89]
      refine AW.loop_dr (α := Nat) (fun j => [.any, (.ref σ.length 0), .any, (.val (.int .i64 (i : Nat))), (.ref (σ.length + 1) 0), .any, .any, (.val (.int .i64 (j : Nat))), .any, .any, .any, .any, .any, .any, .any, .any, .any, .any, .any, .any, .any, .any, .any, .any, .any, .any, .any, .any, .any, .any, .any, .any, .any, .any, .any, .any, .any, .any, .any, .any, .any, .any, .any, .any, .any, .any, .any, .any, .any, .any, .any, .any, .any, .any, .any, .any, .any, .any, .any, .any, .any, .any, .any, .any, .any, .any, .any, .any, .any, .any, .any, .any, .any, .any, .any, .any, .any, .any, .any, .any, .any, .any, .any, .any, .any, .any, .any, .any, .any, .any, .any, .any, .any, .any, .any, .any, .any, .any, .any, .any, .any, .any, .any, .any, .any, .any, .any]) (fun j => σ ++ [.cells f.enc.cells, .cells d.enc.cells]) (fun j => d.outs.length - j) (fun j => j ≤ d.outs.length ∧ (d.outs.take j).any (fun o => o.port.bad || !f.source d o.src) = false) 0 ?_ ?_ ?_
      ·exact ⟨⟨Nat.zero_le _, rfl⟩, by simp [Wk], rfl⟩
      ·exact fun y _ => ⟨by simp [belL, AV.bel], bel_one⟩
      ·rintro j ⟨hj, hjt⟩
       refine AW.seq_k fun K21 hK21 => ?_
       refine AW.regl false [56] (by rfl) fun K22 hK22 => ?_
       simp only [go_sem, Nat.reduceAdd, Nat.reduceEqDiff, Nat.reduceLeDiff, blk_all, rfile_get, rsrc_get, rblk_get, Dgm.enc]
       refine hK22 _ _ ?_
       conv => enter [5]; simp only [sl1, sl0, sz0, sz1]
       refine AW.cond rfl (fun hc56 => ?_) (fun hc56 => ?_)
       ·skip
        have hj1 : j < d.outs.length := by simpa using hc56
        obtain ⟨o, hv⟩ : ∃ o, o = d.outs[j] := ⟨_, rfl⟩
        have hy : (d.outs.map OutM.enc)[j]? = some o.enc := by rw [hv]; simp [hj1]
        refine AW.skip ?_
        refine hK21 _ _ ?_
        refine AW.seq_k fun K23 hK23 => ?_
        refine AW.block ?_
        refine AW.regl false [8] (by rfl) fun K24 hK24 => ?_
        simp only [go_sem, Nat.reduceAdd, Nat.reduceEqDiff, Nat.reduceLeDiff, blk_all, rfile_get, rsrc_get, rblk_get, Dgm.enc, at_row hy, OutM.enc]
        refine hK24 _ _ ?_
        conv => enter [5]; simp only [sl1, sl0, sz0, sz1, upd_none, upd_at]
        -- LIVE [70, 71, 72, 73, 74, 75, 76, 77, 80, 81, 82, 83, 84, 85, 86, 87, 88, 89, 90]
        refine AW.regtdf mixed false 90 (.val (.bool ((decide ((o.port.name.size : Int) > 65535) || (o.port.type != 0 && o.port.type != 1)) || !(f.source d o.src)))) (by kernel_rfl) (by rfl) ?_ ?_
        ·skip
         cases h68 : (decide ((o.port.name.size : Int) > 65535))
         ·skip
          cases h72 : (o.port.type != 0)
          ·skip
           simp only [go_sem, Nat.reduceAdd, Nat.reduceEqDiff, Nat.reduceLeDiff, blk_all, rfile_get, rsrc_get, rblk_get, at_row hy, OutM.enc, Dgm.enc, Src.enc, h68, h72]
           refine qC.of en57 ((rsource_calls f d o.src).on _).here (by rfl) ?_
           simp only [go_sem, Nat.reduceAdd, Nat.reduceEqDiff, Nat.reduceLeDiff, blk_all, rfile_get, rsrc_get, rblk_get, at_row hy, OutM.enc, Dgm.enc, Src.enc, h68, h72]
           try simp [upd_at, h68, h72, List.length_map, rdgm_get, dgm_all, file_all, blk_all, rfile_get, rsrc_get, rblk_get, at_row hy, OutM.enc, Dgm.enc, Src.enc]
          ·skip
           cases h76 : (o.port.type != 1)
           ·skip
            simp only [go_sem, Nat.reduceAdd, Nat.reduceEqDiff, Nat.reduceLeDiff, blk_all, rfile_get, rsrc_get, rblk_get, at_row hy, OutM.enc, Dgm.enc, Src.enc, h68, h72, h76]
            refine qC.of en57 ((rsource_calls f d o.src).on _).here (by rfl) ?_
            simp only [go_sem, Nat.reduceAdd, Nat.reduceEqDiff, Nat.reduceLeDiff, blk_all, rfile_get, rsrc_get, rblk_get, at_row hy, OutM.enc, Dgm.enc, Src.enc, h68, h72, h76]
            try simp [upd_at, h68, h72, h76, List.length_map, rdgm_get, dgm_all, file_all, blk_all, rfile_get, rsrc_get, rblk_get, at_row hy, OutM.enc, Dgm.enc, Src.enc]
           ·skip
            simp only [go_sem, Nat.reduceAdd, Nat.reduceEqDiff, Nat.reduceLeDiff, blk_all, rfile_get, rsrc_get, rblk_get, at_row hy, OutM.enc, Dgm.enc, Src.enc, h68, h72, h76]
            try simp [upd_at, h68, h72, h76, List.length_map, rdgm_get, dgm_all, file_all, blk_all, rfile_get, rsrc_get, rblk_get, at_row hy, OutM.enc, Dgm.enc, Src.enc]
         ·skip
          simp only [go_sem, Nat.reduceAdd, Nat.reduceEqDiff, Nat.reduceLeDiff, blk_all, rfile_get, rsrc_get, rblk_get, at_row hy, OutM.enc, Dgm.enc, Src.enc, h68]
          try simp [upd_at, h68, List.length_map, rdgm_get, dgm_all, file_all, blk_all, rfile_get, rsrc_get, rblk_get, at_row hy, OutM.enc, Dgm.enc, Src.enc]
        conv => enter [5]; simp only [sz0, sz1]
        refine AW.cond rfl (fun hc90 => ?_) (fun hc90 => ?_)
        ·skip
         refine AW.regl false [2] (by rfl) fun K26 hK26 => ?_
         simp only [go_sem, Nat.reduceAdd, Nat.reduceEqDiff, Nat.reduceLeDiff, blk_all, rfile_get, rsrc_get, rblk_get]
         refine hK26 _ _ ?_
         conv => enter [5]; simp only [sl1, sl0, sz0, sz1]
         refine AW.ret ⟨.inr rfl, _, rfl, by simp, ?_⟩
         refine frzB ?_
         have h1 : (d.outs.any (fun o => o.port.bad || !f.source d o.src)) = true := any_at hj1 (by rw [← hv]; exact hc90)
         have : f.rbad d = true := by simp only [FileM.rbad, h1, Bool.true_or, Bool.or_true]
         simp only [FileM.rright, List.any_eq_true.2 ⟨d, hdm, this⟩, Bool.not_true]
        ·skip
         refine AW.skip ?_
         refine hK23 _ _ ?_
         refine AW.lastl false [7] (by rfl) fun K hK => ?_
         simp only [go_sem, Nat.reduceAdd, Nat.reduceEqDiff, Nat.reduceLeDiff, blk_all, rfile_get, rsrc_get, rblk_get]
         refine hK _ _ fun env' hw => ?_
         simp only [setL_cons, setL_nil, List.set_cons_zero, List.set_cons_succ] at hw
         refine ⟨j + 1, by omega, ⟨by omega, any_step hj1 hjt (by rw [← hv]; exact hc90)⟩, ?_, by simp [List.take_append, List.take_of_length_le, Dgm.enc, AV.cells]⟩
         refine hw.trans ?_
         simp [Wk, wrap_succ (show j < 1000 by omega) (by decide)]
       ·skip
        have hj1 : ¬ j < d.outs.length := by simpa using hc56
        have hB := any_end hj1 hjt
        refine AW.exit ?_
        refine hK19 _ _ ?_
        refine AW.regl false [9] (by rfl) fun K27 hK27 => ?_
        simp only [go_sem, Nat.reduceAdd, Nat.reduceEqDiff, Nat.reduceLeDiff, blk_all, rfile_get, rsrc_get, rblk_get]
        refine hK27 _ _ ?_
        conv => enter [5]; simp only [sl1, sl0, sz0, sz1]
        refine AW.block ?_
        -- LIVE but not told: [43, 44, 45, 46, 47, 48, 49, 50, 70, 71, 72, 73, 74, 75, 76, 77, 80, 81, 82, 83, 84, 85, 86, 87, 88, 89]
        refine AW.loop_wk (α := Nat) (fun j => [.any, (.ref σ.length 0), .any, (.val (.int .i64 (i : Nat))), (.ref (σ.length + 1) 0), .any, .any, .any, .any, (.val (.int .i64 (j : Nat))), .any, .any, .any, .any, .any, .any, .any, .any, .any, .any, .any, .any, .any, .any, .any, .any, .any, .any, .any, .any, .any, .any, .any, .any, .any, .any, .any, .any, .any, .any, .any, .any, .any, .any, .any, .any, .any, .any, .any, .any, .any, .any, .any, .any, .any, .any, .any, .any, .any, .any, .any, .any, .any, .any, .any, .any, .any, .any, .any, .any, .any, .any, .any, .any, .any, .any, .any, .any, .any, .any, .any, .any, .any, .any, .any, .any, .any, .any, .any, .any, .any, .any, .any, .any, .any, .any, .any, .any, .any, .any, .any, .any, .any, .any, .any, .any, .any]) (fun j => σ ++ [.cells f.enc.cells, .cells d.enc.cells]) (fun j => d.blocks.length - j) (fun j => j ≤ d.blocks.length ∧ (d.blocks.take j).any (fun b => !f.rblock d b) = false) 0 ?_ ?_
        ·exact ⟨⟨Nat.zero_le _, rfl⟩, by simp [Wk], rfl⟩
        ·rintro j ⟨hj, hjt⟩
         refine AW.seq_k fun K28 hK28 => ?_
         refine AW.regl false [95] (by rfl) fun K29 hK29 => ?_
         simp only [go_sem, Nat.reduceAdd, Nat.reduceEqDiff, Nat.reduceLeDiff, blk_all, rfile_get, rsrc_get, rblk_get, Dgm.enc]
         refine hK29 _ _ ?_
         conv => enter [5]; simp only [sl1, sl0, sz0, sz1]
         refine AW.cond rfl (fun hc95 => ?_) (fun hc95 => ?_)
         ·skip
          have hj1 : j < d.blocks.length := by simpa using hc95
          obtain ⟨b, hv⟩ : ∃ b, b = d.blocks[j] := ⟨_, rfl⟩
          have hy : (d.blocks.map Blk.enc)[j]? = some b.enc := by rw [hv]; simp [hj1]
          refine AW.skip ?_
          refine hK28 _ _ ?_
          refine AW.seq_k fun K30 hK30 => ?_
          refine AW.block ?_
          refine AW.regdl mixed false [106] (by kernel_rfl) (by rfl) fun K31 hK31 => ?_
          simp only [go_sem, Nat.reduceAdd, Nat.reduceEqDiff, Nat.reduceLeDiff, blk_all, rfile_get, rsrc_get, rblk_get, at_row hy, Dgm.enc]
          refine qC.of en58 ((rblock_calls f d b (k5 b (by rw [hv]; exact List.getElem_mem hj1))).on _).here (by rfl) ?_
          simp only [go_sem, Nat.reduceAdd, Nat.reduceEqDiff, Nat.reduceLeDiff, blk_all, rfile_get, rsrc_get, rblk_get, at_row hy, Dgm.enc]
          refine hK31 _ ?_
          conv => enter [5]; simp only [sl1, sl0, sz0, sz1]
          refine AW.cond rfl (fun hc106 => ?_) (fun hc106 => ?_)
          ·skip
           refine AW.regl false [2] (by rfl) fun K32 hK32 => ?_
           simp only [go_sem, Nat.reduceAdd, Nat.reduceEqDiff, Nat.reduceLeDiff, blk_all, rfile_get, rsrc_get, rblk_get]
           refine hK32 _ _ ?_
           conv => enter [5]; simp only [sl1, sl0, sz0, sz1]
           refine AW.ret ⟨.inr rfl, _, rfl, by simp, ?_⟩
           refine frzB ?_
           have h1 : (d.blocks.any (fun b => !f.rblock d b)) = true := any_at hj1 (by rw [← hv]; exact hc106)
           have : f.rbad d = true := by simp only [FileM.rbad, h1, Bool.true_or, Bool.or_true]
           simp only [FileM.rright, List.any_eq_true.2 ⟨d, hdm, this⟩, Bool.not_true]
          ·skip
           refine AW.skip ?_
           refine hK30 _ _ ?_
           refine AW.lastl false [9] (by rfl) fun K hK => ?_
           simp only [go_sem, Nat.reduceAdd, Nat.reduceEqDiff, Nat.reduceLeDiff, blk_all, rfile_get, rsrc_get, rblk_get]
           refine hK _ _ fun env' hw => ?_
           simp only [setL_cons, setL_nil, List.set_cons_zero, List.set_cons_succ] at hw
           refine ⟨j + 1, by omega, ⟨by omega, any_step hj1 hjt (by rw [← hv]; exact hc106)⟩, ?_, rfl⟩
           refine hw.trans ?_
           simp [Wk, wrap_succ (show j < 1000 by omega) (by decide)]
         ·skip
          have hj1 : ¬ j < d.blocks.length := by simpa using hc95
          have hC := any_end hj1 hjt
          refine AW.exit ?_
          refine hK6 _ _ ?_
          refine AW.lastl false [3] (by rfl) fun K hK => ?_
          simp only [go_sem, Nat.reduceAdd, Nat.reduceEqDiff, Nat.reduceLeDiff, blk_all, rfile_get, rsrc_get, rblk_get]
          refine hK _ _ fun env' hw => ?_
          simp only [setL_cons, setL_nil, List.set_cons_zero, List.set_cons_succ] at hw
          refine ⟨i + 1, by omega, ⟨by omega, any_step hi1 hit (by rw [← hd]; simp only [FileM.rbad, hA, hB, hC, hc25, Bool.or_self])⟩, ?_, by simp [List.take_append, List.take_of_length_le]⟩
          refine hw.trans ?_
          simp [Wk, wrap_succ (show i < 1000 by omega) (by decide)]
  ·skip
   have hi1 : ¬ i < f.ds.length := by simpa using hc14
   refine AW.exit ?_
   refine hK2 _ _ ?_
   refine AW.regl false [2] (by rfl) fun K33 hK33 => ?_
   simp only [go_sem, Nat.reduceAdd, Nat.reduceEqDiff, Nat.reduceLeDiff, blk_all, rfile_get, rsrc_get, rblk_get]
   refine hK33 _ _ ?_
   conv => enter [5]; simp only [sl1, sl0, sz0, sz1]
   refine AW.ret ⟨.inr rfl, _, rfl, by simp, ?_⟩
   refine frzB ?_
   simp only [FileM.rright, any_end hi1 hit, Bool.not_false]
end Go.Proofs.Tryd
/-! Flow: right files are good; what is the same of a file and of the program's own one. -/
namespace Go.Proofs.Tryd
set_option linter.unusedSimpArgs false
set_option linter.unusedVariables false
open Go Go.Proofs.Ev
namespace Fl
theorem right_dgm {f : FileM} (h : f.right = true) {d : Dgm} (hd : d ∈ f.ds) : f.diagram d = true := by
 simp only [FileM.right, Bool.and_eq_true, Bool.not_eq_true', List.any_eq_false] at h
 simpa using h.2 d hd
theorem block_wf {f : FileM} {d : Dgm} {b : Blk} (h : f.block d b = true) : WfB f b ∧ 0 ≤ b.op ∧ ∀ s ∈ b.src, f.source d s = true := by
 obtain ⟨kind, op, sub, bn, bx, by', nl, src⟩ := b
 simp only [FileM.block] at h
 by_cases hk : (decide (kind < 0) || decide (kind > 7)) = true
 ·rw [if_pos hk] at h
  cases h
 ·rw [if_neg hk] at h
  have hk2 : ¬ kind < 0 ∧ ¬ kind > 7 := by simpa using hk
  have hk3 : kind = 0 ∨ kind = 1 ∨ kind = 2 ∨ kind = 3 ∨ kind = 4 ∨ kind = 5 ∨ kind = 6 ∨ kind = 7 := by omega
  have hsrc : ∀ A : Bool, (A && !(src.any fun s => !f.source d s)) = true → A = true ∧ ∀ s ∈ src, f.source d s = true := fun A hA => by
   simp only [Bool.and_eq_true, Bool.not_eq_true', List.any_eq_false] at hA
   exact ⟨hA.1, fun s hs => by simpa using hA.2 s hs⟩
  rcases hk3 with rfl | rfl | rfl | rfl | rfl | rfl | rfl | rfl
  all_goals
   change (_ && !(src.any fun s => !f.source d s)) = true at h
   obtain ⟨h1, h2⟩ := hsrc _ h
   simp at h1
   refine ⟨⟨by simp, by simp, by simp <;> omega, by simp <;> omega, by simp <;> omega, by simp <;> omega, by simp <;> omega⟩, by simp <;> omega, h2⟩
theorem good_of {f : FileM} (h : f.right = true) {d : Dgm} (hd : d ∈ f.ds) : GoodD f d := by
 have hx := right_dgm h hd
 simp only [FileM.diagram, Bool.and_eq_true, Bool.not_eq_true', List.any_eq_false, decide_eq_true_eq] at hx
 obtain ⟨⟨⟨⟨⟨⟨h1, h2⟩, h3⟩, h4⟩, h5⟩, h6⟩, h7⟩ := hx
 have hp : ∀ p : PortM, p.right = true → p.name.size ≤ 65535 ∧ (p.type = 0 ∨ p.type = 1) := fun p hp => by
  simp only [PortM.right, Bool.and_eq_true, decide_eq_true_eq] at hp
  omega
 have h5' : ∀ p ∈ d.ins, p.right = true := fun p hp => by simpa using h5 p hp
 have h6' : ∀ o ∈ d.outs, o.port.right = true ∧ f.source d o.src = true := fun o ho => by simpa using h6 o ho
 have h7' : ∀ b ∈ d.blocks, f.block d b = true := fun b hb => by simpa using h7 b hb
 refine ⟨⟨by omega, fun s hs => ?_⟩, fun b hb => (block_wf (h7' b hb)).1, fun b hb => (block_wf (h7' b hb)).2.2, fun o ho => (h6' o ho).2, fun p hp' => (hp p (h5' p hp')).2, fun o ho => (hp o.port (h6' o ho).1).2⟩
 rcases List.mem_append.1 hs with hs | hs
 ·obtain ⟨p, hp', rfl⟩ := List.mem_map.1 hs
  exact (hp p (h5' p hp')).1
 ·obtain ⟨o, ho, rfl⟩ := List.mem_map.1 hs
  exact (hp o.port (h6' o ho).1).1
theorem op_of {f : FileM} (h : f.right = true) {d : Dgm} (hd : d ∈ f.ds) {b : Blk} (hb : b ∈ d.blocks) : 0 ≤ b.op := by
 have hx := right_dgm h hd
 simp only [FileM.diagram, Bool.and_eq_true, Bool.not_eq_true', List.any_eq_false, decide_eq_true_eq] at hx
 exact (block_wf (by simpa using hx.2 b hb)).2.1
theorem typ_pos {f : FileM} (h : f.right = true) {d : Dgm} (hd : d ∈ f.ds) : ∀ (m : Nat) (s : Src), Dp d m s → f.source d s = true → 0 ≤ typ f d m s
 | 0, _, hD, _ => hD.elim
 | m + 1, s, hD, hs => by
  have hg := good_of h hd
  have hlt := source_lt hs
  simp only [typ]
  rw [if_neg (by simp; omega)]
  rcases source_iff.1 hs with ⟨h1, h2, h3⟩ | ⟨k, b, hk, hb, h2, h3⟩
  ·obtain ⟨p, hp, _⟩ := T_in (f := f) h1 h2 h3
   rw [if_pos (by simp [h1]), if_neg (by simp; omega), hp]
   have := hg.tin p (List.mem_of_getElem? hp)
   simp only
   omega
  ·have hb' : d.blocks[s.block.toNat]? = some b := by rw [hk, Int.toNat_natCast]; exact hb
   rw [if_neg (by simp; omega), hb']
   simp only
   rw [if_neg (by simp; omega)]
   have hbm := List.mem_of_getElem? hb
   have hw := hg.wf b hbm
   obtain ⟨d5, d6⟩ := hD (by omega) b hb'
   unfold typB
   split
   ·omega
   split
   ·omega
   split
   ·exact op_of h hd hbm
   split
   ·split <;> omega
   split
   ·rename_i e5
    have e5 : b.kind = 5 := by simpa using e5
    cases h0 : b.src[0]? with
    | none => simp
    | some s0 => exact typ_pos h hd m s0 (d5 e5 s0 h0) (hg.src b hbm s0 (List.mem_of_getElem? h0))
   split
   ·rename_i e6
    have e6 : b.kind = 6 := by simpa using e6
    cases h0 : b.src[1]? with
    | none => simp
    | some s0 => exact typ_pos h hd m s0 (d6 e6 s0 h0) (hg.src b hbm s0 (List.mem_of_getElem? h0))
   ·cases he : f.ds[b.sub.toNat]? with
    | none => simp
    | some e =>
     simp only
     cases ho : e.outs[s.port.toNat]? with
     | none => simp
     | some o =>
      have := (good_of h (List.mem_of_getElem? he)).tout o (List.mem_of_getElem? ho)
      simp only
      omega
theorem T_pos {f : FileM} (h : f.right = true) {d : Dgm} (hd : d ∈ f.ds) {o : List Nat} (ho : ordD d = some o) {s : Src} (hs : f.source d s = true) : 0 ≤ T f d s :=
 typ_pos h hd _ s (dp_all ho (good_of h hd).inB s) hs
-- the program's own file
theorem own_findD (f : FileM) (s : ByteArray) : findD f.own.ds s = findD f.ds s := by
 unfold findD
 rw [show f.own.ds = f.ds.map Dgm.own from rfl, List.findIdx?_map]
 rfl
theorem own_names (f : FileM) (i : Nat) (d : Dgm) : namesM f.own i d.own = namesM f i d := by
 unfold namesM
 rw [own_findD]
 rfl
theorem own_insT (f : FileM) (b : Blk) : insT f.own b.own = insT f b := by
 unfold insT
 rw [show f.own.ds = f.ds.map Dgm.own from rfl, List.getElem?_map, show b.own.sub = b.sub from rfl]
 cases f.ds[b.sub.toNat]? <;> rfl
theorem own_arB (f : FileM) (b : Blk) : arB f.own b.own = arB f b := by
 unfold arB
 rw [own_insT]
 rfl
theorem own_any {p q : Blk → Bool} (d : Dgm) (h : ∀ b, p b.own = q b) : d.own.blocks.any p = d.blocks.any q := by
 rw [show d.own.blocks = d.blocks.map Blk.own from rfl, List.any_map]
 congr 1
 funext b
 exact h b
theorem own_all {p q : Blk → Bool} (d : Dgm) (h : ∀ b, p b.own = q b) : d.own.blocks.all p = d.blocks.all q := by
 rw [show d.own.blocks = d.blocks.map Blk.own from rfl, List.all_map]
 congr 1
 funext b
 exact h b
theorem own_blen (d : Dgm) : d.own.blocks.length = d.blocks.length := by simp [Dgm.own]
theorem own_flen (f : FileM) : f.own.ds.length = f.ds.length := by simp [FileM.own]
theorem own_sumR (f : FileM) (d : Dgm) : sumR f.own d.own.blocks = sumR f d.blocks := by
 unfold sumR
 rw [show d.own.blocks = d.blocks.map Blk.own from rfl, List.map_map]
 congr 1
 exact List.map_congr_left fun b _ => own_results f b
theorem own_rngB (f : FileM) (d : Dgm) : rngB f.own d.own = rngB f d := by
 unfold rngB
 rw [own_all d (q := fun b => decide (b.src.length ≤ 1000)) (fun _ => rfl), own_flen, own_sumR, own_blen]
 rfl
theorem own_hgs (d : Dgm) : hgs d.own = hgs d := by
 unfold hgs
 rw [own_blen, show d.own.blocks = d.blocks.map Blk.own from rfl, List.map_map]
 rfl
theorem own_ordD (d : Dgm) : ordD d.own = ordD d := by
 unfold ordD
 rw [own_hgs, own_blen]
theorem own_typB (f : FileM) (g : Src → Int) (b : Blk) (port : Int) : typB f.own g b.own port = typB f g b port := by
 unfold typB
 rw [show f.own.ds = f.ds.map Dgm.own from rfl, List.getElem?_map, show b.own.sub = b.sub from rfl, show b.own.kind = b.kind from rfl, show b.own.op = b.op from rfl, show b.own.src = b.src from rfl]
 cases f.ds[b.sub.toNat]? <;> rfl
theorem own_typ (f : FileM) (d : Dgm) : ∀ (n : Nat) (s : Src), typ f.own d.own n s = typ f d n s
 | 0, _ => rfl
 | n + 1, s => by
  have ih : typ f.own d.own n = typ f d n := funext (own_typ f d n)
  simp only [typ, ih, own_blen]
  rw [show d.own.blocks = d.blocks.map Blk.own from rfl, List.getElem?_map]
  cases d.blocks[s.block.toNat]? with
  | none => rfl
  | some b =>
   simp only [Option.map_some, own_results, own_typB]
   rfl
theorem own_T (f : FileM) (d : Dgm) (s : Src) : T f.own d.own s = T f d s := by
 unfold T dN
 rw [own_blen, own_typ]
theorem own_askB (f : FileM) (b : Blk) (t : List Int) : askB f.own b.own t = askB f b t := by
 unfold askB
 rw [own_insT]
 rfl
theorem own_asksB (f : FileM) (d : Dgm) : asksB f.own d.own = asksB f d := by
 have e1 : typ f.own d.own (dN d.own) = typ f d (dN d) := funext fun s => own_T f d s
 unfold asksB
 rw [e1, own_all d (q := fun b => askB f b (b.src.map (typ f d (dN d)))) (fun b => own_askB f b _)]
 rfl
theorem own_diaM (f : FileM) (i : Nat) (d : Dgm) : diaM f.own i d.own = diaM f i d := by
 unfold diaM
 rw [own_names, own_rngB, own_any d (q := arB f) (own_arB f), own_ordD, own_asksB]
 rfl
theorem own_diaAt (f : FileM) (i : Nat) : diaAt f.own i = diaAt f i := by
 unfold diaAt
 rw [show f.own.ds = f.ds.map Dgm.own from rfl, List.getElem?_map]
 cases f.ds[i]? with
 | none => rfl
 | some d => exact own_diaM f i d
theorem own_subRow (n : Nat) (d : Dgm) : subRow n d.own.blocks = subRow n d.blocks := by
 unfold subRow
 rw [show d.own.blocks = d.blocks.map Blk.own from rfl, List.foldl_map]
 rfl
theorem own_sgs (f : FileM) : sgs f.own = sgs f := by
 unfold sgs
 rw [own_flen, show f.own.ds = f.ds.map Dgm.own from rfl, List.map_map]
 exact List.map_congr_left fun d _ => own_subRow _ d
theorem own_ordF (f : FileM) : ordF f.own = ordF f := by
 unfold ordF
 rw [own_sgs, own_flen]
theorem own_checkM (f : FileM) : checkM f.own = checkM f := by
 have e : diaAt f.own = diaAt f := funext (own_diaAt f)
 unfold checkM
 rw [e, own_flen, own_ordF]
theorem own_chkC (f : FileM) : chkC f.own = if f.right = true then checkM f else 11 := by
 rw [chkC_eq (f := f.own) (fun h d hd => good_of h hd), own_right, own_checkM]
theorem szD_of {d : Dgm} (h : d.small) : SzD d := ⟨by have := h.1; omega, by have := h.2.1; omega, by have := h.2.2.1; omega, fun b hb => by have := h.2.2.2.2 b hb; omega⟩
theorem szD_own {d : Dgm} (h : SzD d) : SzD d.own := ⟨h.ins, h.outs, by rw [own_blen]; exact h.blocks, fun b hb => by
 obtain ⟨b', hb', rfl⟩ := List.mem_map.1 hb
 exact h.src b' hb'⟩
end Fl
end Go.Proofs.Tryd
/-! Flow: function 7. -/
namespace Go.Proofs.Tryd
set_option linter.unusedSimpArgs false
set_option linter.unusedVariables false
open Go Go.Proofs.Ev
namespace Fl
variable {Γ : List (Nat × List AV)} {w : AV} {G : List (Nat × List AV)}
attribute [local go_sem] true_and List.length_map len_row one_row List.drop_zero blk_len dgm_len port_len out_len src_len file_len src_get port_get out_get blk_get dgm_get file_get dgm_all blk_all src_all port_all out_all file_all set_geta set_geta0 set_seta
set_option maxRecDepth 100000 in
set_option maxHeartbeats 4000000 in
theorem check_calls (hΓ : A.Words (GK w G)) (f : FileM) (hok : f.ok) (hf : f.ds.length ≤ 2000) (hsz : ∀ d ∈ f.ds, SzD d) (hgd : f.right = true → ∀ d ∈ f.ds, GoodD f d) (σ : Sto) : ACalls prog (GK w G) 7 [f.enc] σ (fun v σ' => (σ.length ≤ σ'.length ∧ ∀ j, j < σ.length → σ'[j]? = σ[j]?) ∧ ((¬ chkC f = 0 ∧ v = .tup [.val (.pointer none), i64 (chkC f)]) ∨ (chkC f = 0 ∧ v = .tup [.ref (σ.length + 4) 0, i64 0] ∧ Fin f σ.length σ'))) := by
 refine ACalls.of func7 rfl ?_
 simp only [ntmps7, List.length_cons, List.length_nil, Nat.reduceAdd, Nat.reduceSub, List.replicate_succ, List.replicate_zero, List.cons_append, List.nil_append]
 have hlF : f.ds.length ≤ maxLen := by rw [maxLen_eq]; omega
 refine AW.regl false [1, 2, 3] (by rfl) fun K1 hK1 => ?_
 simp only [go_sem, Nat.reduceAdd, Nat.reduceEqDiff, Nat.reduceLeDiff]
 refine hK1 _ _ ?_
 conv => enter [5]; simp only [sl1, sl0, sz0, sz1]
 refine AW.seq_k fun K2 hK2 => ?_
 refine AW.regl false [19] (by rfl) fun K3 hK3 => ?_
 simp only [go_sem, Nat.reduceAdd, Nat.reduceEqDiff, Nat.reduceLeDiff]
 refine sC.of en27 ((right_calls f hok).on _).here (by rfl) ?_
 simp only [go_sem, Nat.reduceAdd, Nat.reduceEqDiff, Nat.reduceLeDiff]
 refine hK3 _ _ ?_
 conv => enter [5]; simp only [sl1, sl0, sz0, sz1]
 refine AW.cond rfl (fun hc19 => ?_) (fun hc19 => ?_)
 ·skip
  have hr : ¬ f.right = true := by simpa using hc19
  have hch : chkC f = 11 := by rw [chkC, if_neg hr]
  refine AW.regl false [2, 3] (by rfl) fun K4 hK4 => ?_
  simp only [go_sem, Nat.reduceAdd, Nat.reduceEqDiff, Nat.reduceLeDiff]
  refine hK4 _ _ ?_
  conv => enter [5]; simp only [sl1, sl0, sz0, sz1]
  exact AW.ret ⟨.inr rfl, _, rfl, ⟨by simp, fun j hj => List.getElem?_append_left hj⟩, .inl ⟨by rw [hch]; decide, by rw [hch]; rfl⟩⟩
 ·skip
  have hr : f.right = true := by simpa using hc19
  have hgd := hgd hr
  refine AW.skip ?_
  refine hK2 _ _ ?_
  refine AW.regl false [4] (by rfl) fun K5 hK5 => ?_
  simp only [go_sem, Nat.reduceAdd, Nat.reduceEqDiff, Nat.reduceLeDiff, FileM.enc]
  refine hK5 _ _ ?_
  conv => enter [5]; simp only [sl1, sl0, sz0, sz1]
  refine AW.r4 (f := f) mixed hf rfl rfl rfl (app_get0 _ _) (fun j a b => by
   have : j = 23 ∨ j = 24 ∨ j = 25 ∨ j = 26 ∨ j = 27 ∨ j = 28 ∨ j = 29 ∨ j = 30 := by omega
   rcases this with rfl | rfl | rfl | rfl | rfl | rfl | rfl | rfl <;> rfl) (by simp [belL, AV.bel, FileM.enc, row_bel dgm_bel, ofConst, ofCell]) (by rfl) (by rfl) (by rfl) ?_
  conv => enter [5]; simp only [sz0, sz1]
  unfold r4sto
  simp only [List.append_assoc, List.cons_append, List.nil_append, List.length_append, List.length_cons, List.length_nil, Nat.add_assoc, Nat.reduceAdd]
  refine AW.regl false [6] (by rfl) fun K7 hK7 => ?_
  simp only [go_sem, Nat.reduceAdd, Nat.reduceEqDiff, Nat.reduceLeDiff, mkN hf]
  refine hK7 _ _ ?_
  conv => enter [5]; simp only [sl1, sl0, sz0, sz1]
  refine AW.seq_k fun K8 hK8 => ?_
  refine AW.regl false [34, 35, 36] (by rfl) fun K9 hK9 => ?_
  simp only [go_sem, Nat.reduceAdd, Nat.reduceEqDiff, Nat.reduceLeDiff, FileM.enc]
  refine hK9 _ _ ?_
  conv => enter [5]; simp only [sl1, sl0, sz0, sz1]
  refine AW.block ?_
  refine AW.loop_wk (α := Nat × Sto) (fun z => [.any, (.ref σ.length 0), .any, .any, .any, (.ref (σ.length + 4) 0), (.osl (σ.length + 8) 0 f.ds.length 1), .any, .any, .any, .any, .any, .any, .any, .any, .any, .any, .any, .any, .any, .any, .any, .any, .any, .any, .any, .any, .any, .any, .any, .any, .any, .any, .any, (rowAV 4 f.nl (f.ds.map Dgm.enc)), (.val (.int .i64 ((f.ds.length : Nat) : Int))), (i64 ((z.1 : Nat) : Int)), .any, .any, .any, .any, .any, .any, .any, .any, .any, .any, .any, .any, .any, .any, .any, .any, .any, .any, .any, .any, .any, .any, .any, .any, .any, .any, .any, .any, .any, .any, .any, .any, .any, .any, .any, .any, .any, .any, .any, .any, .any, .any, .any, .any, .any, .any, .any, .any, .any, .any, .any, .any, .any, .any, .any, .any, .any, .any, .any, .any, .any, .any, .any, .any, .any, .any, .any, .any, .any, .any, .any, .any, .any, .any, .any, .any, .any, .any]) (fun z => z.2) (fun z => f.ds.length - z.1) (fun z => z.1 ≤ f.ds.length ∧ ∃ N qs, LA f σ z.1 z.1 N qs z.2) (0, σ ++ [.cells f.enc.cells, .dead, .dead, .dead, .cells [rowAV 4 f.nl (f.ds.map Dgm.enc), .mapo (σ.length + 5), .osl (σ.length + 6) 0 f.ds.length 1, .osl (σ.length + 7) 0 f.ds.length 1, .nilsl], .map [] [], .cells (List.replicate f.ds.length (.val (.map none))), .cells (List.replicate f.ds.length .nilsl), .cells (List.replicate f.ds.length .nilsl)]) ?_ ?_
  ·exact ⟨⟨Nat.zero_le _, [], [], LA.start f σ⟩, by simp [Wk], rfl⟩
  ·rintro ⟨i, ρ⟩ ⟨hi, N, qs, hA⟩
   simp only at hi hA
   refine AW.regl false [37] (by rfl) fun K10 hK10 => ?_
   simp only [go_sem, Nat.reduceAdd, Nat.reduceEqDiff, Nat.reduceLeDiff]
   refine hK10 _ _ ?_
   conv => enter [5]; simp only [sl1, sl0, sz0, sz1]
   refine AW.seq_k fun K11 hK11 => ?_
   refine AW.cond rfl (fun hc37 => ?_) (fun hc37 => ?_)
   ·skip
    have hi1 : i < f.ds.length := by simpa using hc37
    obtain ⟨d, hd⟩ : ∃ z, z = f.ds[i] := ⟨_, rfl⟩
    have hfd : f.ds[i]? = some d := by rw [hd]; exact List.getElem?_eq_getElem hi1
    have hx : (f.ds.map Dgm.enc)[i]? = some d.enc := by simp [hfd]
    have hdm := List.mem_of_getElem? hfd
    have hdz := hsz d hdm
    have hlB : d.blocks.length ≤ maxLen := by rw [maxLen_eq]; have := hdz.blocks; omega
    have hlen := hA.len
    have gT := fun l => getL hA.t l
    have gN := fun l => getL hA.nm l
    have hlkN := fun l => lkNt (gN l) d.name
    have hNl : σ.length + 5 < ρ.length := by omega
    refine AW.skip ?_
    refine hK11 _ _ ?_
    refine AW.seq_k fun K12 hK12 => ?_
    refine AW.block ?_
    refine AW.regl false [8, 7] (by rfl) fun K13 hK13 => ?_
    simp only [go_sem, Nat.reduceAdd, Nat.reduceEqDiff, Nat.reduceLeDiff, at_row hx]
    refine hK13 _ _ ?_
    conv => enter [5]; simp only [sl1, sl0, sz0, sz1, upd_none, upd_at]
    refine AW.seq_k fun K14 hK14 => ?_
    refine AW.regdl mixed false [10] (by kernel_rfl) (by rfl) fun K15 hK15 => ?_
    simp only [go_sem, Nat.reduceAdd, Nat.reduceEqDiff, Nat.reduceLeDiff, Dgm.enc, gT, hlkN, aExtract]
    refine hK15 _ ?_
    conv => enter [5]; simp only [sl1, sl0, sz0, sz1]
    refine AW.regl false [52] (by rfl) fun K16 hK16 => ?_
    simp only [go_sem, Nat.reduceAdd, Nat.reduceEqDiff, Nat.reduceLeDiff]
    refine hK16 _ _ ?_
    conv => enter [5]; simp only [sl1, sl0, sz0, sz1]
    refine AW.cond rfl (fun hc52 => ?_) (fun hc52 => ?_)
    ·skip
     have hnn : lookN N d.name = none := by simpa using hc52
     have hup := fun l => upN (gN l) hnn i
     simp only [List.set_append_left _ _ hNl] at hup
     refine AW.lastml mixed false [] 7 (by kernel_rfl) (by kernel_rfl) (by rfl) fun K hK => ?_
     simp only [go_sem, Nat.reduceAdd, Nat.reduceEqDiff, Nat.reduceLeDiff, Dgm.enc, gT, hup]
     refine hK _ _ fun env' hw => ?_
     simp only [setL_cons, setL_nil, List.set_cons_zero, List.set_cons_succ, upd_none, upd_at] at hw
     refine hK14 _ _ (AW.weaken hw ?_); clear hw
     have hA := hA.name hfd hnn
     rw [show ρ.length = (ρ.set (σ.length + 5) (mapN (N ++ [(d.name, i)]))).length by simp]
     generalize ρ.set (σ.length + 5) (mapN (N ++ [(d.name, i)])) = ρ at hA ⊢
     generalize N ++ [(d.name, i)] = N at hA
     have hlen := hA.len
     have gT := fun l => getL hA.t l
     have gY := fun l => getL hA.ty l
     have hYl : σ.length + 6 < ρ.length := by omega
     have htl : i < (qs.map AV.mapo ++ List.replicate (f.ds.length - i) (AV.val (.map none))).length := by simp [hA.ql]; omega
     have hatY := at_osl (o := σ.length + 6) (k := .i64) hi1
     have hspY := spl_gen htl (.mapo (ρ.length + 1))
     have hszY : i + 1 ≤ qs.length + (List.replicate (f.ds.length - i) (AV.val (Value.map none))).length := by rw [List.length_replicate, hA.ql]; omega
     refine AW.regl false [] (by rfl) fun K17 hK17 => ?_
     simp only [go_sem, Nat.reduceAdd, Nat.reduceEqDiff, Nat.reduceLeDiff, gT, hatY, aMakeMap, gY, hspY, if_pos hszY, List.set_append_left _ _ hYl]
     refine hK17 _ _ ?_
     conv => enter [5]; simp only [sl1, sl0, sz0, sz1, upd_none, upd_at]
     obtain ⟨ρ2, hρ2⟩ : ∃ z, z = ρ.set (σ.length + 6) (.cells ((qs.map AV.mapo ++ List.replicate (f.ds.length - i) (AV.val (.map none))).set i (.mapo (ρ.length + 1)))) := ⟨_, rfl⟩
     have hl2 : ρ2.length = ρ.length := by rw [hρ2]; simp
     rw [← hρ2, ← hl2]
     have hS2 : ρ2[σ.length + 8]? = some (.cells (gx (subsL f) i)) := by rw [hρ2, get_set (by omega)]; exact hA.sb
     have hiL : i < (subsL f).length := by rw [subsL_len]; exact hi1
     have hLi : (subsL f)[i] = subsB d.blocks := by simp [subsL, hd]
     have hgl : (gx (subsL f) i).length = f.ds.length := by rw [gx_len (by omega), subsL_len]
     refine AW.cap 1 ?_
     simp only [List.append_assoc, List.cons_append, List.nil_append]
     refine AW.own (σ.length + 8) i (ρ2.length + 2) (getL hS2 _) (gx_at hiL) ((app_get ρ2 _ 2).trans rfl) (by decide) ?_
     rw [List.set_append_left _ _ (show σ.length + 8 < ρ2.length by omega)]
     refine AW.regl false [68, 69, 70] (by rfl) fun K18 hK18 => ?_
     simp only [go_sem, Nat.reduceAdd, Nat.reduceEqDiff, Nat.reduceLeDiff, Dgm.enc]
     refine hK18 _ _ ?_
     conv => enter [5]; simp only [sl1, sl0, sz0, sz1]
     refine AW.block ?_
     refine AW.loop_dr (α := Nat) (fun j => [.any, (.ref σ.length 0), .any, .any, .any, (.ref (σ.length + 4) 0), (.osl (σ.length + 8) 0 f.ds.length 1), (i64 ((i : Nat) : Int)), (.ref ρ2.length 0), .any, .any, .any, .any, .any, .any, .any, .any, .any, .any, .any, .any, .any, .any, .any, .any, .any, .any, .any, .any, .any, .any, .any, .any, .any, (rowAV 4 f.nl (f.ds.map Dgm.enc)), (.val (.int .i64 ((f.ds.length : Nat) : Int))), (.val (.int .i64 ((i : Nat) : Int))), .any, .any, .any, .any, .any, .any, .any, .any, .any, .any, .any, .any, .any, .any, .any, .any, .any, .any, .any, .any, .any, .any, .any, .any, .any, .any, .any, .any, .any, .any, .any, (rowAV 7 d.nlB (d.blocks.map Blk.enc)), (.val (.int .i64 ((d.blocks.length : Nat) : Int))), (.val (.int .i64 ((j : Nat) : Int))), .any, .any, .any, .any, .any, .any, .any, .any, .any, .any, .any, .any, .any, .any, .any, .any, .any, .any, .any, .any, .any, .any, .any, .any, .any, .any, .any, .any, .any, .any, .any, .any, .any, .any, .any, .any, .any, .any, .any, .any, .any, .any, .any, .any]) (fun j => ρ2.set (σ.length + 8) (.cells ((gx (subsL f) i).set i (.slo true 1 ((subsB (d.blocks.take j)).map natA) (ρ2.length + 2)))) ++ [.cells d.enc.cells, .map [] [], .cap (subsB (d.blocks.take j)).length 1]) (fun j => d.blocks.length - j) (fun j => j ≤ d.blocks.length) 0 ?_ ?_ ?_
     ·exact ⟨Nat.zero_le _, by simp [Wk], rfl⟩
     ·refine fun y _ => ⟨?_, set_bela ?_ fun a ha => ?_⟩
      ·simp only [belL, AV.bel, Bool.and_true, Bool.true_and, Bool.and_eq_true, decide_eq_true_eq, List.length_append, List.length_set, List.length_cons, List.length_nil, row_bel dgm_bel, row_bel blk_bel, and_true, true_and]
       omega
      ·exact belL_set (by simp only [AV.bel, belL_map natA _ fun _ _ => nat_bel _ _, Bool.and_true, decide_eq_true_eq, List.length_append, List.length_set, List.length_cons, List.length_nil]; omega) (gx_bel _ _ _)
      ·simp only [List.mem_cons, List.not_mem_nil, or_false] at ha
       rcases ha with rfl | rfl | rfl
       ·exact dgm_cb d _
       ·rfl
       ·rfl
     ·intro j hi
      refine AW.regl false [71] (by rfl) fun K19 hK19 => ?_
      simp only [go_sem, Nat.reduceAdd, Nat.reduceEqDiff, Nat.reduceLeDiff]
      refine hK19 _ _ ?_
      conv => enter [5]; simp only [sl1, sl0, sz0, sz1]
      refine AW.seq_k fun K20 hK20 => ?_
      refine AW.cond rfl (fun hc71 => ?_) (fun hc71 => ?_)
      ·skip
       have hj1 : j < d.blocks.length := by simpa using hc71
       obtain ⟨b, hb⟩ : ∃ z, z = d.blocks[j] := ⟨_, rfl⟩
       have hy : (d.blocks.map Blk.enc)[j]? = some b.enc := by rw [hb]; simp [hj1]
       have hbm : b ∈ d.blocks := by rw [hb]; exact List.getElem_mem hj1
       have hsn := subsB_snoc hj1
       rw [← hb] at hsn
       refine AW.skip ?_
       refine hK20 _ _ ?_
       refine AW.seq_k fun K21 hK21 => ?_
       refine AW.block ?_
       refine AW.regl false [12] (by rfl) fun K22 hK22 => ?_
       simp only [go_sem, Nat.reduceAdd, Nat.reduceEqDiff, Nat.reduceLeDiff, at_row hy]
       refine hK22 _ _ ?_
       conv => enter [5]; simp only [sl1, sl0, sz0, sz1, upd_none, upd_at]
       refine AW.regl false [76] (by rfl) fun K23 hK23 => ?_
       simp only [go_sem, Nat.reduceAdd, Nat.reduceEqDiff, Nat.reduceLeDiff, Blk.enc]
       refine hK23 _ _ ?_
       conv => enter [5]; simp only [sl1, sl0, sz0, sz1]
       refine AW.cond rfl (fun hc76 => ?_) (fun hc76 => ?_)
       ·skip
        have h7 : b.kind = 7 := by simpa using hc76
        obtain ⟨q, hq⟩ := Int.eq_ofNat_of_zero_le ((hgd d hdm).wf b hbm |>.sub h7).1
        rw [if_pos hc76, hq, Int.toNat_natCast] at hsn
        obtain ⟨H, hHd⟩ : ∃ z, z = subsB (d.blocks.take j) := ⟨_, rfl⟩
        have hHl : H.length ≤ 2000 := by
         rw [hHd]
         have h1 : (subsB (d.blocks.take j)).length ≤ (d.blocks.take j).length := by simp only [subsB, List.length_map]; exact List.length_filter_le _ _
         have := hdz.blocks
         rw [List.length_take] at h1
         omega
        rw [← hHd] at hsn ⊢
        have hdrS := dr_set (l := gx (subsL f) i) (i := i) (by rw [hgl]; exact hi1) (.slo true 1 (H.map natA) (ρ2.length + 2))
        have hapH := fun σ k => ap_natN (l := H) (by omega) true q σ k
        have hspS := spl_set (l := gx (subsL f) i) (i := i) (by rw [hgl]; exact hi1) (.slo true 1 (H.map natA) (ρ2.length + 2)) (.slo true 1 ((H ++ [q]).map natA) (ρ2.length + 2))
        have hszS : i + 1 ≤ (gx (subsL f) i).length := by rw [hgl]; exact hi1
        have hatS := at_osl (o := σ.length + 8) (k := .i64) hi1
        have gS := fun (c : List AV) (l : Sto) => getL (List.getElem?_set_self (a := AO.cells c) (show σ.length + 8 < ρ2.length by omega)) l
        have hset := fun (c c' : List AV) (l : Sto) => (List.set_append_left (s := ρ2.set (σ.length + 8) (.cells c)) (t := l) (σ.length + 8) (.cells c') (by simp; omega)).trans (by rw [List.set_set])
        refine AW.lastch mixed [ρ2.set (σ.length + 8) (.cells ((gx (subsL f) i).set i (.slo true 1 ((H).map natA) (ρ2.length + 2)))) ++ [.cells d.enc.cells, .map [] [], .cap H.length 1, .cells b.enc.cells], ρ2.set (σ.length + 8) (.cells ((gx (subsL f) i).set i (.slo true 1 ((H).map natA) (ρ2.length + 2)))) ++ [.cells d.enc.cells, .map [] [], .cap (H.length + 1) 1, .cells b.enc.cells], ρ2.set (σ.length + 8) (.cells ((gx (subsL f) i).set i (.slo true 1 ((H ++ [q]).map natA) (ρ2.length + 2)))) ++ [.cells d.enc.cells, .map [] [], .cap (H.length + 1) 1, .cells b.enc.cells]] [(0, 1, true), (0, 1, true), (0, 0, true), (0, 0, true), (0, 0, true), (0, 0, true), (0, 0, true), (0, 0, true), (0, 0, true), (0, 0, false), (1, 1, true), (0, 0, false)] [] (by kernel_rfl) (by rfl) (by kernel_rfl) (by rfl) fun K hK => ?_
        simp only [go_sem, Nat.reduceAdd, Nat.reduceEqDiff, Nat.reduceLeDiff, Blk.enc, hq, hatS, gS, hdrS, List.length_set, hapH, hspS, if_pos hszS, hset, List.append_assoc, List.cons_append, List.nil_append]
        refine xE.of (by first | rfl | (simp; done) | (simp; repeat' constructor)) ?_
        simp only [go_sem, Nat.reduceAdd, Nat.reduceEqDiff, Nat.reduceLeDiff, Blk.enc, hq, hatS, gS, hdrS, List.length_set, hapH, hspS, if_pos hszS, hset, List.append_assoc, List.cons_append, List.nil_append]
        refine xE.of (by first | rfl | (simp; done) | (simp; repeat' constructor)) ?_
        simp only [go_sem, Nat.reduceAdd, Nat.reduceEqDiff, Nat.reduceLeDiff, Blk.enc, hq, hatS, gS, hdrS, List.length_set, hapH, hspS, if_pos hszS, hset, List.append_assoc, List.cons_append, List.nil_append]
        refine hK _ fun env' hw => ?_
        simp only [setL_cons, setL_nil, List.set_cons_zero, List.set_cons_succ, upd_none, upd_at] at hw
        refine hK21 _ _ (AW.weaken hw ?_); clear hw
        refine AW.lastl false [70] (by rfl) fun K hK => ?_
        simp only [go_sem, Nat.reduceAdd, Nat.reduceEqDiff, Nat.reduceLeDiff]
        refine hK _ _ fun env' hw => ?_
        simp only [setL_cons, setL_nil, List.set_cons_zero, List.set_cons_succ] at hw
        refine ⟨j + 1, by omega, by omega, ?_, ?_⟩
        ·refine hw.trans ?_
         simp [Wk, wrap_succ hj1 hlB]
        ·rw [hsn]
         simp [List.take_append, List.take_of_length_le]
       ·skip
        rw [if_neg (ne_true_of_eq_false hc76), List.append_nil] at hsn
        refine AW.skip ?_
        refine hK21 _ _ ?_
        refine AW.lastl false [70] (by rfl) fun K hK => ?_
        simp only [go_sem, Nat.reduceAdd, Nat.reduceEqDiff, Nat.reduceLeDiff]
        refine hK _ _ fun env' hw => ?_
        simp only [setL_cons, setL_nil, List.set_cons_zero, List.set_cons_succ] at hw
        refine ⟨j + 1, by omega, by omega, ?_, ?_⟩
        ·refine hw.trans ?_
         simp [Wk, wrap_succ hj1 hlB]
        ·rw [hsn]
         simp [List.take_append, List.take_of_length_le]
      ·skip
       have hj1 : j = d.blocks.length := by
        have : ¬ j < d.blocks.length := by simpa using hc71
        omega
       refine AW.exit ?_
       refine hK12 _ _ ?_
       refine AW.still (σ.length + 8) (getL (List.getElem?_set_self (show σ.length + 8 < ρ2.length by omega)) _) ?_
       rw [List.set_append_left _ _ (by simp; omega), List.set_set, hj1, List.take_length, ← hLi, gx_still hiL]
       refine AW.lastl false [36] (by rfl) fun K hK => ?_
       simp only [go_sem, Nat.reduceAdd, Nat.reduceEqDiff, Nat.reduceLeDiff]
       refine hK _ _ fun env' hw => ?_
       simp only [setL_cons, setL_nil, List.set_cons_zero, List.set_cons_succ] at hw
       refine ⟨(i + 1, ((ρ.set (σ.length + 6) (.cells ((qs.map AV.mapo ++ List.replicate (f.ds.length - i) (AV.val (.map none))).set i (.mapo (ρ.length + 1))))).set (σ.length + 8) (.cells (gx (subsL f) (i + 1)))) ++ [.cells d.enc.cells, .map [] [], .cap (subsB d.blocks).length 1]), by simp only; omega, ⟨by simp only; omega, N, qs ++ [ρ.length + 1], hA.done hi1⟩, ?_, ?_⟩
       ·refine hw.trans ?_
        simp [Wk, wrap_succ hi1 hlF]
       ·subst hρ2
        simp only [hLi]
    ·skip
     have hnn : ¬ lookN N d.name = none := by simpa [Option.isSome_iff_ne_none] using hc52
     refine AW.skip ?_
     refine hK14 _ _ ?_
     have hA := hA.skip hfd hnn
     have hlen := hA.len
     have gT := fun l => getL hA.t l
     have gY := fun l => getL hA.ty l
     have hYl : σ.length + 6 < ρ.length := by omega
     have htl : i < (qs.map AV.mapo ++ List.replicate (f.ds.length - i) (AV.val (.map none))).length := by simp [hA.ql]; omega
     have hatY := at_osl (o := σ.length + 6) (k := .i64) hi1
     have hspY := spl_gen htl (.mapo (ρ.length + 1))
     have hszY : i + 1 ≤ qs.length + (List.replicate (f.ds.length - i) (AV.val (Value.map none))).length := by rw [List.length_replicate, hA.ql]; omega
     refine AW.regl false [] (by rfl) fun K24 hK24 => ?_
     simp only [go_sem, Nat.reduceAdd, Nat.reduceEqDiff, Nat.reduceLeDiff, gT, hatY, aMakeMap, gY, hspY, if_pos hszY, List.set_append_left _ _ hYl]
     refine hK24 _ _ ?_
     conv => enter [5]; simp only [sl1, sl0, sz0, sz1, upd_none, upd_at]
     obtain ⟨ρ2, hρ2⟩ : ∃ z, z = ρ.set (σ.length + 6) (.cells ((qs.map AV.mapo ++ List.replicate (f.ds.length - i) (AV.val (.map none))).set i (.mapo (ρ.length + 1)))) := ⟨_, rfl⟩
     have hl2 : ρ2.length = ρ.length := by rw [hρ2]; simp
     rw [← hρ2, ← hl2]
     have hS2 : ρ2[σ.length + 8]? = some (.cells (gx (subsL f) i)) := by rw [hρ2, get_set (by omega)]; exact hA.sb
     have hiL : i < (subsL f).length := by rw [subsL_len]; exact hi1
     have hLi : (subsL f)[i] = subsB d.blocks := by simp [subsL, hd]
     have hgl : (gx (subsL f) i).length = f.ds.length := by rw [gx_len (by omega), subsL_len]
     refine AW.cap 1 ?_
     simp only [List.append_assoc, List.cons_append, List.nil_append]
     refine AW.own (σ.length + 8) i (ρ2.length + 2) (getL hS2 _) (gx_at hiL) ((app_get ρ2 _ 2).trans rfl) (by decide) ?_
     rw [List.set_append_left _ _ (show σ.length + 8 < ρ2.length by omega)]
     refine AW.regl false [68, 69, 70] (by rfl) fun K25 hK25 => ?_
     simp only [go_sem, Nat.reduceAdd, Nat.reduceEqDiff, Nat.reduceLeDiff, Dgm.enc]
     refine hK25 _ _ ?_
     conv => enter [5]; simp only [sl1, sl0, sz0, sz1]
     refine AW.block ?_
     refine AW.loop_dr (α := Nat) (fun j => [.any, (.ref σ.length 0), .any, .any, .any, (.ref (σ.length + 4) 0), (.osl (σ.length + 8) 0 f.ds.length 1), (i64 ((i : Nat) : Int)), (.ref ρ2.length 0), .any, .any, .any, .any, .any, .any, .any, .any, .any, .any, .any, .any, .any, .any, .any, .any, .any, .any, .any, .any, .any, .any, .any, .any, .any, (rowAV 4 f.nl (f.ds.map Dgm.enc)), (.val (.int .i64 ((f.ds.length : Nat) : Int))), (.val (.int .i64 ((i : Nat) : Int))), .any, .any, .any, .any, .any, .any, .any, .any, .any, .any, .any, .any, .any, .any, .any, .any, .any, .any, .any, .any, .any, .any, .any, .any, .any, .any, .any, .any, .any, .any, .any, (rowAV 7 d.nlB (d.blocks.map Blk.enc)), (.val (.int .i64 ((d.blocks.length : Nat) : Int))), (.val (.int .i64 ((j : Nat) : Int))), .any, .any, .any, .any, .any, .any, .any, .any, .any, .any, .any, .any, .any, .any, .any, .any, .any, .any, .any, .any, .any, .any, .any, .any, .any, .any, .any, .any, .any, .any, .any, .any, .any, .any, .any, .any, .any, .any, .any, .any, .any, .any, .any, .any]) (fun j => ρ2.set (σ.length + 8) (.cells ((gx (subsL f) i).set i (.slo true 1 ((subsB (d.blocks.take j)).map natA) (ρ2.length + 2)))) ++ [.cells d.enc.cells, .map [] [], .cap (subsB (d.blocks.take j)).length 1]) (fun j => d.blocks.length - j) (fun j => j ≤ d.blocks.length) 0 ?_ ?_ ?_
     ·exact ⟨Nat.zero_le _, by simp [Wk], rfl⟩
     ·refine fun y _ => ⟨?_, set_bela ?_ fun a ha => ?_⟩
      ·simp only [belL, AV.bel, Bool.and_true, Bool.true_and, Bool.and_eq_true, decide_eq_true_eq, List.length_append, List.length_set, List.length_cons, List.length_nil, row_bel dgm_bel, row_bel blk_bel, and_true, true_and]
       omega
      ·exact belL_set (by simp only [AV.bel, belL_map natA _ fun _ _ => nat_bel _ _, Bool.and_true, decide_eq_true_eq, List.length_append, List.length_set, List.length_cons, List.length_nil]; omega) (gx_bel _ _ _)
      ·simp only [List.mem_cons, List.not_mem_nil, or_false] at ha
       rcases ha with rfl | rfl | rfl
       ·exact dgm_cb d _
       ·rfl
       ·rfl
     ·intro j hi
      refine AW.regl false [71] (by rfl) fun K26 hK26 => ?_
      simp only [go_sem, Nat.reduceAdd, Nat.reduceEqDiff, Nat.reduceLeDiff]
      refine hK26 _ _ ?_
      conv => enter [5]; simp only [sl1, sl0, sz0, sz1]
      refine AW.seq_k fun K27 hK27 => ?_
      refine AW.cond rfl (fun hc71 => ?_) (fun hc71 => ?_)
      ·skip
       have hj1 : j < d.blocks.length := by simpa using hc71
       obtain ⟨b, hb⟩ : ∃ z, z = d.blocks[j] := ⟨_, rfl⟩
       have hy : (d.blocks.map Blk.enc)[j]? = some b.enc := by rw [hb]; simp [hj1]
       have hbm : b ∈ d.blocks := by rw [hb]; exact List.getElem_mem hj1
       have hsn := subsB_snoc hj1
       rw [← hb] at hsn
       refine AW.skip ?_
       refine hK27 _ _ ?_
       refine AW.seq_k fun K28 hK28 => ?_
       refine AW.block ?_
       refine AW.regl false [12] (by rfl) fun K29 hK29 => ?_
       simp only [go_sem, Nat.reduceAdd, Nat.reduceEqDiff, Nat.reduceLeDiff, at_row hy]
       refine hK29 _ _ ?_
       conv => enter [5]; simp only [sl1, sl0, sz0, sz1, upd_none, upd_at]
       refine AW.regl false [76] (by rfl) fun K30 hK30 => ?_
       simp only [go_sem, Nat.reduceAdd, Nat.reduceEqDiff, Nat.reduceLeDiff, Blk.enc]
       refine hK30 _ _ ?_
       conv => enter [5]; simp only [sl1, sl0, sz0, sz1]
       refine AW.cond rfl (fun hc76 => ?_) (fun hc76 => ?_)
       ·skip
        have h7 : b.kind = 7 := by simpa using hc76
        obtain ⟨q, hq⟩ := Int.eq_ofNat_of_zero_le ((hgd d hdm).wf b hbm |>.sub h7).1
        rw [if_pos hc76, hq, Int.toNat_natCast] at hsn
        obtain ⟨H, hHd⟩ : ∃ z, z = subsB (d.blocks.take j) := ⟨_, rfl⟩
        have hHl : H.length ≤ 2000 := by
         rw [hHd]
         have h1 : (subsB (d.blocks.take j)).length ≤ (d.blocks.take j).length := by simp only [subsB, List.length_map]; exact List.length_filter_le _ _
         have := hdz.blocks
         rw [List.length_take] at h1
         omega
        rw [← hHd] at hsn ⊢
        have hdrS := dr_set (l := gx (subsL f) i) (i := i) (by rw [hgl]; exact hi1) (.slo true 1 (H.map natA) (ρ2.length + 2))
        have hapH := fun σ k => ap_natN (l := H) (by omega) true q σ k
        have hspS := spl_set (l := gx (subsL f) i) (i := i) (by rw [hgl]; exact hi1) (.slo true 1 (H.map natA) (ρ2.length + 2)) (.slo true 1 ((H ++ [q]).map natA) (ρ2.length + 2))
        have hszS : i + 1 ≤ (gx (subsL f) i).length := by rw [hgl]; exact hi1
        have hatS := at_osl (o := σ.length + 8) (k := .i64) hi1
        have gS := fun (c : List AV) (l : Sto) => getL (List.getElem?_set_self (a := AO.cells c) (show σ.length + 8 < ρ2.length by omega)) l
        have hset := fun (c c' : List AV) (l : Sto) => (List.set_append_left (s := ρ2.set (σ.length + 8) (.cells c)) (t := l) (σ.length + 8) (.cells c') (by simp; omega)).trans (by rw [List.set_set])
        refine AW.lastch mixed [ρ2.set (σ.length + 8) (.cells ((gx (subsL f) i).set i (.slo true 1 ((H).map natA) (ρ2.length + 2)))) ++ [.cells d.enc.cells, .map [] [], .cap H.length 1, .cells b.enc.cells], ρ2.set (σ.length + 8) (.cells ((gx (subsL f) i).set i (.slo true 1 ((H).map natA) (ρ2.length + 2)))) ++ [.cells d.enc.cells, .map [] [], .cap (H.length + 1) 1, .cells b.enc.cells], ρ2.set (σ.length + 8) (.cells ((gx (subsL f) i).set i (.slo true 1 ((H ++ [q]).map natA) (ρ2.length + 2)))) ++ [.cells d.enc.cells, .map [] [], .cap (H.length + 1) 1, .cells b.enc.cells]] [(0, 1, true), (0, 1, true), (0, 0, true), (0, 0, true), (0, 0, true), (0, 0, true), (0, 0, true), (0, 0, true), (0, 0, true), (0, 0, false), (1, 1, true), (0, 0, false)] [] (by kernel_rfl) (by rfl) (by kernel_rfl) (by rfl) fun K hK => ?_
        simp only [go_sem, Nat.reduceAdd, Nat.reduceEqDiff, Nat.reduceLeDiff, Blk.enc, hq, hatS, gS, hdrS, List.length_set, hapH, hspS, if_pos hszS, hset, List.append_assoc, List.cons_append, List.nil_append]
        refine xE.of (by first | rfl | (simp; done) | (simp; repeat' constructor)) ?_
        simp only [go_sem, Nat.reduceAdd, Nat.reduceEqDiff, Nat.reduceLeDiff, Blk.enc, hq, hatS, gS, hdrS, List.length_set, hapH, hspS, if_pos hszS, hset, List.append_assoc, List.cons_append, List.nil_append]
        refine xE.of (by first | rfl | (simp; done) | (simp; repeat' constructor)) ?_
        simp only [go_sem, Nat.reduceAdd, Nat.reduceEqDiff, Nat.reduceLeDiff, Blk.enc, hq, hatS, gS, hdrS, List.length_set, hapH, hspS, if_pos hszS, hset, List.append_assoc, List.cons_append, List.nil_append]
        refine hK _ fun env' hw => ?_
        simp only [setL_cons, setL_nil, List.set_cons_zero, List.set_cons_succ, upd_none, upd_at] at hw
        refine hK28 _ _ (AW.weaken hw ?_); clear hw
        refine AW.lastl false [70] (by rfl) fun K hK => ?_
        simp only [go_sem, Nat.reduceAdd, Nat.reduceEqDiff, Nat.reduceLeDiff]
        refine hK _ _ fun env' hw => ?_
        simp only [setL_cons, setL_nil, List.set_cons_zero, List.set_cons_succ] at hw
        refine ⟨j + 1, by omega, by omega, ?_, ?_⟩
        ·refine hw.trans ?_
         simp [Wk, wrap_succ hj1 hlB]
        ·rw [hsn]
         simp [List.take_append, List.take_of_length_le]
       ·skip
        rw [if_neg (ne_true_of_eq_false hc76), List.append_nil] at hsn
        refine AW.skip ?_
        refine hK28 _ _ ?_
        refine AW.lastl false [70] (by rfl) fun K hK => ?_
        simp only [go_sem, Nat.reduceAdd, Nat.reduceEqDiff, Nat.reduceLeDiff]
        refine hK _ _ fun env' hw => ?_
        simp only [setL_cons, setL_nil, List.set_cons_zero, List.set_cons_succ] at hw
        refine ⟨j + 1, by omega, by omega, ?_, ?_⟩
        ·refine hw.trans ?_
         simp [Wk, wrap_succ hj1 hlB]
        ·rw [hsn]
         simp [List.take_append, List.take_of_length_le]
      ·skip
       have hj1 : j = d.blocks.length := by
        have : ¬ j < d.blocks.length := by simpa using hc71
        omega
       refine AW.exit ?_
       refine hK12 _ _ ?_
       refine AW.still (σ.length + 8) (getL (List.getElem?_set_self (show σ.length + 8 < ρ2.length by omega)) _) ?_
       rw [List.set_append_left _ _ (by simp; omega), List.set_set, hj1, List.take_length, ← hLi, gx_still hiL]
       refine AW.lastl false [36] (by rfl) fun K hK => ?_
       simp only [go_sem, Nat.reduceAdd, Nat.reduceEqDiff, Nat.reduceLeDiff]
       refine hK _ _ fun env' hw => ?_
       simp only [setL_cons, setL_nil, List.set_cons_zero, List.set_cons_succ] at hw
       refine ⟨(i + 1, ((ρ.set (σ.length + 6) (.cells ((qs.map AV.mapo ++ List.replicate (f.ds.length - i) (AV.val (.map none))).set i (.mapo (ρ.length + 1))))).set (σ.length + 8) (.cells (gx (subsL f) (i + 1)))) ++ [.cells d.enc.cells, .map [] [], .cap (subsB d.blocks).length 1]), by simp only; omega, ⟨by simp only; omega, N, qs ++ [ρ.length + 1], hA.done hi1⟩, ?_, ?_⟩
       ·refine hw.trans ?_
        simp [Wk, wrap_succ hi1 hlF]
       ·subst hρ2
        simp only [hLi]
   ·skip
    have hi1 : i = f.ds.length := by
     have : ¬ i < f.ds.length := by simpa using hc37
     omega
    rw [hi1] at hA
    have hT0 := hA.all
    have gF := hA.fb
    refine AW.exit ?_
    refine hK8 _ _ ?_
    refine AW.seq_k fun K31 hK31 => ?_
    refine AW.regl false [92, 93] (by rfl) fun K32 hK32 => ?_
    simp only [go_sem, Nat.reduceAdd, Nat.reduceEqDiff, Nat.reduceLeDiff, gF, file_cells]
    refine hK32 _ _ ?_
    conv => enter [5]; simp only [sl1, sl0, sz0, sz1]
    refine AW.block ?_
    refine AW.loop_wk (α := Nat × Sto) (fun z => [.any, .any, .any, .any, .any, (.ref (σ.length + 4) 0), (.osl (σ.length + 8) 0 f.ds.length 1), .any, .any, .any, .any, .any, .any, .any, .any, .any, .any, .any, .any, .any, .any, .any, .any, .any, .any, .any, .any, .any, .any, .any, .any, .any, .any, .any, .any, .any, .any, .any, .any, .any, .any, .any, .any, .any, .any, .any, .any, .any, .any, .any, .any, .any, .any, .any, .any, .any, .any, .any, .any, .any, .any, .any, .any, .any, .any, .any, .any, .any, .any, .any, .any, .any, .any, .any, .any, .any, .any, .any, .any, .any, .any, .any, .any, .any, .any, .any, .any, .any, .any, .any, .any, .any, (.val (.int .i64 ((f.ds.length : Nat) : Int))), (i64 ((z.1 : Nat) : Int)), .any, .any, .any, .any, .any, .any, .any, .any, .any, .any, .any, .any, .any, .any, .any, .any, .any, .any, .any, .any, .any]) (fun z => z.2) (fun z => f.ds.length - z.1) (fun z => z.1 ≤ f.ds.length ∧ (∀ j, j < z.1 → diaCAt f j = 0) ∧ ∃ qs ords, TS f σ z.1 N qs ords z.2) (0, ρ) ?_ ?_
    ·exact ⟨⟨Nat.zero_le _, fun j h => absurd h (Nat.not_lt_zero _), _, _, hT0⟩, by simp [Wk], rfl⟩
    ·rintro ⟨i, ρ⟩ ⟨hi, hz, qs, ords, hT⟩
     simp only at hi hz hT
     refine AW.regl false [94] (by rfl) fun K33 hK33 => ?_
     simp only [go_sem, Nat.reduceAdd, Nat.reduceEqDiff, Nat.reduceLeDiff]
     refine hK33 _ _ ?_
     conv => enter [5]; simp only [sl1, sl0, sz0, sz1]
     refine AW.seq_k fun K34 hK34 => ?_
     refine AW.cond rfl (fun hc94 => ?_) (fun hc94 => ?_)
     ·skip
      have hi1 : i < f.ds.length := by simpa using hc94
      obtain ⟨d, hd⟩ : ∃ z, z = f.ds[i] := ⟨_, rfl⟩
      have hfd : f.ds[i]? = some d := by rw [hd]; exact List.getElem?_eq_getElem hi1
      have hdm := List.mem_of_getElem? hfd
      obtain ⟨q, hq⟩ : ∃ q, qs[i]? = some q := ⟨_, List.getElem?_eq_getElem (by rw [hT.ql]; exact hi1)⟩
      have hqa := hT.qa q (List.mem_of_getElem? hq)
      have hcall := diagram_calls' (w := w) (G := G) hΓ f (hT.tyAt hq) N hT.nm hT.or (by omega) (by omega) (by omega) (by omega) hT.ol hT.ob d hfd hf hsz (hgd d hdm) (hT.ns d.name)
      rw [sm_same (hT.new i q (Nat.le_refl _) hq)] at hcall
      have hlen := hT.len
      refine AW.skip ?_
      refine hK34 _ _ ?_
      refine AW.seq_k fun K35 hK35 => ?_
      refine AW.block ?_
      refine AW.regl false [13] (by rfl) fun K36 hK36 => ?_
      simp only [go_sem, Nat.reduceAdd, Nat.reduceEqDiff, Nat.reduceLeDiff]
      refine hK36 _ _ ?_
      conv => enter [5]; simp only [sl1, sl0, sz0, sz1]
      refine AW.regl false [14] (by rfl) fun K37 hK37 => ?_
      simp only [go_sem, Nat.reduceAdd, Nat.reduceEqDiff, Nat.reduceLeDiff]
      refine sC.ofR en28 (hcall) (fun v' σ' hR => ?_)
      obtain ⟨rfl, ⟨cs, M0, hst⟩, hz1⟩ := hR
      simp only [go_sem, Nat.reduceAdd, Nat.reduceEqDiff, Nat.reduceLeDiff]
      refine hK37 _ _ ?_
      conv => enter [5]; simp only [sl1, sl0, sz0, sz1]
      refine AW.regl false [100] (by rfl) fun K38 hK38 => ?_
      simp only [go_sem, Nat.reduceAdd, Nat.reduceEqDiff, Nat.reduceLeDiff]
      refine hK38 _ _ ?_
      conv => enter [5]; simp only [sl1, sl0, sz0, sz1]
      refine AW.cond rfl (fun hc100 => ?_) (fun hc100 => ?_)
      ·skip
       have hne : ¬ diaC f i d = 0 := by simpa using hc100
       have hch : chkC f = diaC f i d := by rw [chkC_at hr hi1 hz (by rw [diaCAt_eq hfd]; exact hne), diaCAt_eq hfd]
       refine AW.regl false [2, 3] (by rfl) fun K39 hK39 => ?_
       simp only [go_sem, Nat.reduceAdd, Nat.reduceEqDiff, Nat.reduceLeDiff]
       refine hK39 _ _ ?_
       conv => enter [5]; simp only [sl1, sl0, sz0, sz1]
       exact AW.ret ⟨.inr rfl, _, rfl, ⟨by rw [hst, sm_len, List.length_set]; omega, fun j hj => by rw [hst, sm, get_set (by omega), get_set (by omega)]; exact hT.pre j hj⟩, .inl ⟨by rw [hch]; exact hne, by rw [hch]; rfl⟩⟩
      ·skip
       have hz0 : diaC f i d = 0 := by simpa using hc100
       clear hst
       obtain ⟨M, o, ho, rfl, hwk, hty⟩ := hz1 hz0
       refine AW.skip ?_
       refine hK35 _ _ ?_
       refine AW.lastl false [93] (by rfl) fun K hK => ?_
       simp only [go_sem, Nat.reduceAdd, Nat.reduceEqDiff, Nat.reduceLeDiff]
       refine hK _ _ fun env' hw => ?_
       simp only [setL_cons, setL_nil, List.set_cons_zero, List.set_cons_succ] at hw
       refine ⟨(i + 1, sm (ρ.set (σ.length + 7) (.cells (ords.set i (rowN o)))) q M), by simp only; omega, ⟨by simp only; omega, fun j hj => by
        rcases Nat.lt_or_ge j i with h | h
        ·exact hz j h
        ·rw [show j = i by omega, diaCAt_eq hfd]; exact hz0, qs, ords.set i (rowN o), hT.next hq hfd ho hwk hty⟩, ?_, rfl⟩
       refine hw.trans ?_
       simp [Wk, wrap_succ hi1 hlF]
     ·skip
      have hi1 : i = f.ds.length := by
       have : ¬ i < f.ds.length := by simpa using hc94
       omega
      rw [hi1] at hT hz
      have hlen := hT.len
      have hsc := sorted3 (Γ := GK w G) hf (fun d hd => (hgd d hd).subOk) hsz
      unfold ordV at hsc
      refine AW.exit ?_
      refine hK31 _ _ ?_
      refine freeze_end (σ.length + 8) f.ds.length 1 ((subsL f).map rowN) hT.sb (rowN_flat _) (by simp [subsL_len]) (fun e he => by obtain ⟨x, _, rfl⟩ := List.mem_map.1 he; exact rowN_len x) ?_
      conv => enter [5]; simp only [subL, AV.sub, and_self, if_true]
      have gT : (ρ.set (σ.length + 8) .dead)[σ.length + 4]? = _ := (get_set (by omega)).trans hT.t
      refine AW.regl false [15, 16] (by rfl) fun K40 hK40 => ?_
      simp only [go_sem, Nat.reduceAdd, Nat.reduceEqDiff, Nat.reduceLeDiff]
      refine sC.of en29 (hsc.on _).here (by rfl) ?_
      simp only [go_sem, Nat.reduceAdd, Nat.reduceEqDiff, Nat.reduceLeDiff]
      refine hK40 _ _ ?_
      conv => enter [5]; simp only [sl1, sl0, sz0, sz1]
      refine AW.seq_k fun K41 hK41 => ?_
      refine AW.regl false [109] (by rfl) fun K42 hK42 => ?_
      simp only [go_sem, Nat.reduceAdd, Nat.reduceEqDiff, Nat.reduceLeDiff]
      refine hK42 _ _ ?_
      conv => enter [5]; simp only [sl1, sl0, sz0, sz1]
      refine AW.cond rfl (fun hc109 => ?_) (fun hc109 => ?_)
      ·skip
       have hO : ¬ (ord (lmat (subsL f)) f.ds.length).isSome = true := by simpa using hc109
       have hch : chkC f = 9 := by rw [chkC_end hr hz, if_neg hO]
       refine AW.regl false [2, 3] (by rfl) fun K43 hK43 => ?_
       simp only [go_sem, Nat.reduceAdd, Nat.reduceEqDiff, Nat.reduceLeDiff]
       refine hK43 _ _ ?_
       conv => enter [5]; simp only [sl1, sl0, sz0, sz1]
       exact AW.ret ⟨.inr rfl, _, rfl, ⟨by rw [List.length_set]; omega, fun j hj => by rw [get_set (by omega)]; exact hT.pre j hj⟩, .inl ⟨by rw [hch]; decide, by rw [hch]; rfl⟩⟩
      ·skip
       have hO : (ord (lmat (subsL f)) f.ds.length).isSome = true := by simpa using hc109
       have hch : chkC f = 0 := by rw [chkC_end hr hz, if_pos hO]
       obtain ⟨dg, hdg⟩ := Option.isSome_iff_exists.1 hO
       rw [show (ord (lmat (subsL f)) f.ds.length).getD [] = dg by rw [hdg]; rfl]
       refine AW.skip ?_
       refine hK41 _ _ ?_
       refine AW.regl false [] (by rfl) fun K44 hK44 => ?_
       simp only [go_sem, Nat.reduceAdd, Nat.reduceEqDiff, Nat.reduceLeDiff, gT, List.set_cons_zero]
       refine hK44 _ _ ?_
       conv => enter [5]; simp only [sl1, sl0, sz0, sz1, upd_none, upd_at]
       refine AW.regl false [2, 3] (by rfl) fun K45 hK45 => ?_
       simp only [go_sem, Nat.reduceAdd, Nat.reduceEqDiff, Nat.reduceLeDiff]
       refine hK45 _ _ ?_
       conv => enter [5]; simp only [sl1, sl0, sz0, sz1]
       exact AW.ret ⟨.inr rfl, _, rfl, ⟨by simp only [List.length_set]; omega, fun j hj => by rw [get_set (by omega), get_set (by omega)]; exact hT.pre j hj⟩, .inr ⟨hch, rfl, ⟨N, qs, ords, dg, by rw [List.getElem?_set_self (by rw [List.length_set]; omega)]; rfl, by rw [get_set (by omega), get_set (by omega)]; exact hT.nm, hT.ns, by rw [get_set (by omega), get_set (by omega)]; exact hT.ty, hT.ql, by rw [get_set (by omega), get_set (by omega)]; exact hT.or, hT.ol, hdg, fun j q d hj hdj => by
        have h9 := hT.qa q (List.mem_of_getElem? hj)
        obtain ⟨M, o, g1, g2⟩ := hT.old j q d (by rw [← hT.ql]; exact (List.getElem?_eq_some_iff.1 hj).1) hj hdj
        exact ⟨M, o, by rw [get_set (by omega), get_set (by omega)]; exact g1, g2⟩⟩⟩⟩
end Fl
end Go.Proofs.Tryd
/-! Flow: the chapter's examples. -/
namespace Go.Proofs.Tryd
set_option linter.unusedSimpArgs false
set_option linter.unusedVariables false
open Go Go.Proofs.Ev
namespace Fl
variable {w : AV} {G : List (Nat × List AV)}
def awSrc (l : List Src) : Blk := ⟨3, 11, 0, 0, 0, 0, false, l⟩
def awLate : Blk := ⟨4, 0, 0, 0, 0, 0, false, [⟨0, 0⟩]⟩
def awD (bs : List Blk) : Dgm := ⟨⟨#[102]⟩, false, [⟨⟨#[97]⟩, 0⟩], false, [⟨⟨⟨#[98]⟩, 0⟩, ⟨0, 0⟩⟩], false, bs⟩
def awA : FileM := ⟨false, [awD [awSrc [⟨-1, 0⟩, ⟨0, 0⟩]]]⟩
def awB : FileM := ⟨false, [awD [awSrc [⟨-1, 0⟩, ⟨1, 0⟩], awLate]]⟩
theorem chkA : chkC awA = 9 := by kernel_rfl
theorem chkB : chkC awB = 0 := by kernel_rfl
theorem aw_ok {bs : List Blk} (h1 : bs.length ≤ 2) (h2 : ∀ b ∈ bs, b.src.length ≤ 2) : (awD bs).ok ∧ SzD (awD bs) := by
 refine ⟨⟨by rw [maxLen_eq]; show 1 ≤ _; decide, ⟨by rw [maxLen_eq]; show 1 ≤ _; decide, fun p hp => ?_⟩, ⟨by rw [maxLen_eq]; show 1 ≤ _; decide, fun p hp => ?_⟩, ?_, fun b hb => ?_⟩, ⟨by show 1 ≤ 2000; decide, by show 1 ≤ 2000; decide, ?_, fun b hb => ?_⟩⟩
 ·rw [List.mem_singleton.1 hp, maxLen_eq]; decide
 ·rw [List.mem_singleton.1 hp, maxLen_eq]; decide
 ·rw [maxLen_eq]; show bs.length ≤ _; omega
 ·have := h2 b hb; show b.src.length ≤ maxLen; rw [maxLen_eq]; omega
 ·show bs.length ≤ 2000; omega
 ·have := h2 b hb; omega
theorem fok {f : FileM} (d : Dgm) (hf : f.ds = [d]) (h : d.ok ∧ SzD d) : f.ok ∧ f.ds.length ≤ 2000 ∧ ∀ d ∈ f.ds, SzD d := by
 rw [FileM.ok, hf]
 refine ⟨⟨by rw [maxLen_eq]; show 1 ≤ _; decide, fun e he => ?_⟩, by show 1 ≤ 2000; decide, fun e he => ?_⟩
 ·rw [List.mem_singleton.1 he]; exact h.1
 ·rw [List.mem_singleton.1 he]; exact h.2
theorem pre_app {σ σ' : Sto} (h : σ.length ≤ σ'.length ∧ ∀ j, j < σ.length → σ'[j]? = σ[j]?) : ∃ τ, σ' = σ ++ τ := by
 refine ⟨σ'.drop σ.length, ?_⟩
 have : σ'.take σ.length = σ := by
  apply List.ext_getElem?
  intro j
  rw [List.getElem?_take]
  split
  ·rename_i hj
   exact h.2 j hj
  ·rename_i hj
   rw [List.getElem?_eq_none (by omega)]
 conv => lhs; rw [← List.take_append_drop σ.length σ', this]
theorem awA_calls (hΓ : A.Words (GK w G)) (σ : Sto) : ACalls prog (GK w G) 7 [awA.enc] σ (fun v σ' => v = .tup [.val (.pointer none), i64 9] ∧ ∃ τ, σ' = σ ++ τ) := by
 obtain ⟨h1, h2, h3⟩ := fok (f := awA) _ rfl (aw_ok (by decide) (by simp [awSrc]))
 refine (check_calls hΓ awA h1 h2 h3 (fun h d hd => good_of h hd) σ).mono ?_
 rintro v σ' ⟨hp, ⟨_, rfl⟩ | ⟨h0, _⟩⟩
 ·rw [chkA]; exact ⟨rfl, pre_app hp⟩
 ·rw [chkA] at h0; cases h0
theorem awB_calls (hΓ : A.Words (GK w G)) (σ : Sto) : ACalls prog (GK w G) 7 [awB.enc] σ (fun v σ' => v = .tup [.ref (σ.length + 4) 0, i64 0] ∧ ∃ τ, σ' = σ ++ τ) := by
 obtain ⟨h1, h2, h3⟩ := fok (f := awB) _ rfl (aw_ok (by decide) (by simp [awSrc, awLate]))
 refine (check_calls hΓ awB h1 h2 h3 (fun h d hd => good_of h hd) σ).mono ?_
 rintro v σ' ⟨hp, ⟨h0, _⟩ | ⟨_, rfl, _⟩⟩
 ·rw [chkB] at h0; exact absurd rfl h0
 ·exact ⟨rfl, pre_app hp⟩
theorem row2_30 (σ : Sto) (u v : AV) (h1 : u.cells.length = 2) (h2 : u.cells.all AV.one = true) (h3 : v.cells.length = 2) (h4 : v.cells.all AV.one = true) : aRow prog false σ 30 2 [(0, u), (1, v)] = some (.sl 2 [u, v], σ) := by
 exact aRow_sl (by kernel_rfl) (by decide) (row30 (by decide) (by decide) rfl (by intro p hp; simp only [List.mem_cons, List.not_mem_nil, or_false] at hp; rcases hp with rfl | rfl; exact ⟨h1, h2⟩; exact ⟨h3, h4⟩)) σ
theorem row2_33 (σ : Sto) (u v : AV) (h1 : u.cells.length = 7) (h2 : u.cells.all AV.one = true) (h3 : v.cells.length = 7) (h4 : v.cells.all AV.one = true) : aRow prog false σ 33 2 [(0, u), (1, v)] = some (.sl 7 [u, v], σ) := by
 exact aRow_sl (by kernel_rfl) (by decide) (row33 (by decide) (by decide) rfl (by intro p hp; simp only [List.mem_cons, List.not_mem_nil, or_false] at hp; rcases hp with rfl | rfl; exact ⟨h1, h2⟩; exact ⟨h3, h4⟩)) σ
theorem ofC_ptr : ofConst (.pointer none) = .val (.pointer none) := rfl
end Fl
end Go.Proofs.Tryd
/-! Flow: function 8. -/
namespace Go.Proofs.Tryd
set_option linter.unusedSimpArgs false
set_option linter.unusedVariables false
open Go Go.Proofs.Ev
namespace Fl
variable {Γ : List (Nat × List AV)} {w : AV} {G : List (Nat × List AV)}
attribute [local go_sem] true_and row2_30 row2_33 List.append_assoc List.cons_append List.nil_append src_all src_len
set_option maxRecDepth 100000 in
theorem awake_calls (hΓ : A.Words (GK w G)) : APure prog (GK w G) 8 [] (.val (.bool true)) := by
 refine APure.of func8 rfl fun σ => ?_
 simp only [ntmps8, List.length_cons, List.length_nil, Nat.reduceAdd, Nat.reduceSub, List.replicate_succ, List.replicate_zero, List.cons_append, List.nil_append]
 refine AW.regl false [0] (by rfl) fun K1 hK1 => ?_
 simp only [go_sem, Nat.reduceAdd, Nat.reduceEqDiff, Nat.reduceLeDiff]
 refine hK1 _ _ ?_
 conv => enter [5]; simp only [sl1, sl0, sz0, sz1]
 refine AW.regl false [1] (by rfl) fun K2 hK2 => ?_
 simp only [go_sem, Nat.reduceAdd, Nat.reduceEqDiff, Nat.reduceLeDiff]
 refine hK2 _ _ ?_
 conv => enter [5]; simp only [sl1, sl0, sz0, sz1, upd_none, upd_at]
 refine AW.regl false [2] (by rfl) fun K3 hK3 => ?_
 simp only [go_sem, Nat.reduceAdd, Nat.reduceEqDiff, Nat.reduceLeDiff]
 refine hK3 _ _ ?_
 conv => enter [5]; simp only [sl1, sl0, sz0, sz1, upd_none, upd_at]
 refine AW.regl false [3] (by rfl) fun K4 hK4 => ?_
 simp only [go_sem, Nat.reduceAdd, Nat.reduceEqDiff, Nat.reduceLeDiff]
 refine hK4 _ _ ?_
 conv => enter [5]; simp only [sl1, sl0, sz0, sz1, upd_none, upd_at]
 refine AW.regl false [5] (by rfl) fun K5 hK5 => ?_
 simp only [go_sem, Nat.reduceAdd, Nat.reduceEqDiff, Nat.reduceLeDiff, aExtract]
 refine sC.ofR en7 (awA_calls hΓ _) (fun v' σ' hR => ?_)
 obtain ⟨rfl, τ, rfl⟩ := hR
 simp only [go_sem, Nat.reduceAdd, Nat.reduceEqDiff, Nat.reduceLeDiff, aExtract]
 refine hK5 _ _ ?_
 conv => enter [5]; simp only [sl1, sl0, sz0, sz1]
 refine AW.regl false [] (by rfl) fun K6 hK6 => ?_
 simp only [go_sem, Nat.reduceAdd, Nat.reduceEqDiff, Nat.reduceLeDiff]
 refine hK6 _ _ ?_
 conv => enter [5]; simp only [sl1, sl0, sz0, sz1, upd_none, upd_at]
 refine AW.regl false [] (by rfl) fun K7 hK7 => ?_
 simp only [go_sem, Nat.reduceAdd, Nat.reduceEqDiff, Nat.reduceLeDiff]
 refine hK7 _ _ ?_
 conv => enter [5]; simp only [sl1, sl0, sz0, sz1, upd_none, upd_at]
 refine AW.regl false [6, 7] (by rfl) fun K8 hK8 => ?_
 simp only [go_sem, Nat.reduceAdd, Nat.reduceEqDiff, Nat.reduceLeDiff, aExtract]
 refine sC.ofR en7 (awB_calls hΓ _) (fun v' σ' hR => ?_)
 obtain ⟨rfl, τ2, rfl⟩ := hR
 simp only [go_sem, Nat.reduceAdd, Nat.reduceEqDiff, Nat.reduceLeDiff, aExtract]
 refine hK8 _ _ ?_
 conv => enter [5]; simp only [sl1, sl0, sz0, sz1]
 refine AW.regtf false 0 (.val (.bool (true))) (by rfl) ?_ ?_
 ·skip
  simp only [go_sem, Nat.reduceAdd, Nat.reduceEqDiff, Nat.reduceLeDiff, beq_self_eq_true, ofC_ptr, ptrn43, if_true]
  try simp [upd_at, row2_30, row2_33, List.append_assoc, List.cons_append, List.nil_append, src_all, src_len, beq_self_eq_true, ofC_ptr, ptrn43, if_true]
 conv => enter [5]; simp only [sz0, sz1]
 refine AW.ret ⟨.inr rfl, _, rfl, by simp, ?_⟩
 exact .keep rfl
end Fl
end Go.Proofs.Tryd
/-! Flow: function 15. -/
namespace Go.Proofs.Tryd
set_option linter.unusedSimpArgs false
set_option linter.unusedVariables false
open Go Go.Proofs.Ev
namespace Fl
variable {Γ : List (Nat × List AV)} {w : AV} {G : List (Nat × List AV)}
attribute [local go_sem] true_and List.length_map len_row one_row List.drop_zero blk_len dgm_len port_len out_len src_len file_len rdgm_get rblk_get rsrc_get rfile_get dgm_all blk_all src_all file_all
set_option maxRecDepth 100000 in
set_option maxHeartbeats 1000000 in
theorem rdiagrams_calls (f : FileM) (hn : f.ds.length ≤ 1000) (hb : ∀ d ∈ f.ds, d.blocks.length ≤ 2000) (hs : ∀ d ∈ f.ds, subOk f d) : APure prog Γ 15 [f.enc] (ordV (ordF f)) := by
 refine APure.of func15 rfl fun σ => ?_
 simp only [ntmps15, List.length_cons, List.length_nil, Nat.reduceAdd, Nat.reduceSub, List.replicate_succ, List.replicate_zero, List.cons_append, List.nil_append]
 have hl : f.ds.length ≤ maxLen := by rw [maxLen_eq]; omega
 have hc2 := rsortF (Γ := Γ) f hn
 unfold ordV at hc2 ⊢
 refine AW.regl false [1, 2, 3] (by rfl) fun K1 hK1 => ?_
 simp only [go_sem, Nat.reduceAdd, Nat.reduceEqDiff, Nat.reduceLeDiff]
 refine hK1 _ _ ?_
 conv => enter [5]; simp only [sl1, sl0, sz0, sz1]
 refine AW.regl false [4] (by rfl) fun K2 hK2 => ?_
 simp only [go_sem, Nat.reduceAdd, Nat.reduceEqDiff, Nat.reduceLeDiff]
 refine hK2 _ _ ?_
 conv => enter [5]; simp only [sl1, sl0, sz0, sz1]
 refine AW.cap 1 ?_
 try simp only [List.append_assoc, List.cons_append, List.nil_append]
 refine AW.ownT 4 (σ.length + 1) rfl ((app_get _ _ 1).trans rfl) (by decide) ?_
 try simp only [List.set_cons_zero, List.set_cons_succ]
 refine AW.seq_k fun K3 hK3 => ?_
 refine AW.regl false [5] (by rfl) fun K4 hK4 => ?_
 simp only [go_sem, Nat.reduceAdd, Nat.reduceEqDiff, Nat.reduceLeDiff]
 refine hK4 _ _ ?_
 conv => enter [5]; simp only [sl1, sl0, sz0, sz1]
 refine AW.block ?_
 refine AW.loop_dr (α := Nat) (fun i => [.any, (.ref σ.length 0), .any, .any, (.slo true 1 ((f.ds.take i).map (fun d : Dgm => rowB (subRow f.ds.length d.blocks))) (σ.length + 1)), (.val (.int .i64 ((i : Nat) : Int))), .any, .any, .any, .any, .any, .any, .any, .any, .any, .any, .any, .any, .any, .any, .any, .any, .any, .any, .any, .any, .any, .any, .any, .any, .any, .any, .any, .any, .any, .any, .any, .any, .any, .any, .any, .any, .any, .any, .any, .any, .any, .any, .any, .any, .any, .any, .any, .any, .any]) (fun i => σ ++ [.cells (FileM.enc f).cells, .cap i 1]) (fun i => f.ds.length - i) (fun i => i ≤ f.ds.length) 0 ?_ ?_ ?_
 ·exact ⟨Nat.zero_le _, by simp [Wk], rfl⟩
 ·refine fun y _ => ⟨?_, bel_app σ fun a ha => ?_⟩
  ·simp only [belL, AV.bel, Bool.and_true, Bool.true_and, Bool.and_eq_true, decide_eq_true_eq, List.length_append, List.length_cons, List.length_nil]
   refine ⟨by omega, ?_⟩
   exact ⟨by omega, belL_map _ _ fun _ _ => rowB_bel _ _⟩
  ·simp only [List.mem_cons, List.not_mem_nil, or_false] at ha
   rcases ha with rfl | rfl
   ·exact file_bel f _
   ·rfl
 ·intro i hi
  refine AW.seq_k fun K5 hK5 => ?_
  refine AW.regl false [13] (by rfl) fun K6 hK6 => ?_
  simp only [go_sem, Nat.reduceAdd, Nat.reduceEqDiff, Nat.reduceLeDiff, FileM.enc]
  refine hK6 _ _ ?_
  conv => enter [5]; simp only [sl1, sl0, sz0, sz1]
  refine AW.cond rfl (fun hc13 => ?_) (fun hc13 => ?_)
  ·skip
   have hi1 : i < f.ds.length := by simpa using hc13
   obtain ⟨d, hd⟩ : ∃ z, z = f.ds[i] := ⟨_, rfl⟩
   have hx : (f.ds.map Dgm.enc)[i]? = some d.enc := by rw [hd]; simp [hi1]
   have hdm : d ∈ f.ds := by rw [hd]; exact List.getElem_mem hi1
   have hlb : d.blocks.length ≤ maxLen := by rw [maxLen_eq]; have := hb d hdm; omega
   refine AW.skip ?_
   refine hK5 _ _ ?_
   refine AW.seq_k fun K7 hK7 => ?_
   refine AW.block ?_
   refine AW.regl false [6] (by rfl) fun K8 hK8 => ?_
   simp only [go_sem, Nat.reduceAdd, Nat.reduceEqDiff, Nat.reduceLeDiff, FileM.enc, mkB (show f.ds.length ≤ 2000 by omega)]
   refine hK8 _ _ ?_
   conv => enter [5]; simp only [sl1, sl0, sz0, sz1]
   refine AW.seq_k fun K9 hK9 => ?_
   refine AW.regl false [7] (by rfl) fun K10 hK10 => ?_
   simp only [go_sem, Nat.reduceAdd, Nat.reduceEqDiff, Nat.reduceLeDiff]
   refine hK10 _ _ ?_
   conv => enter [5]; simp only [sl1, sl0, sz0, sz1]
   refine AW.block ?_
   refine AW.loop_dr (α := Nat) (fun j => [.any, (.ref σ.length 0), .any, .any, (.slo true 1 ((f.ds.take i).map (fun d : Dgm => rowB (subRow f.ds.length d.blocks))) (σ.length + 1)), (.val (.int .i64 ((i : Nat) : Int))), (.osl (σ.length + 2) 0 f.ds.length 1), (.val (.int .i64 ((j : Nat) : Int))), .any, .any, .any, .any, .any, .any, .any, .any, .any, .any, .any, .any, .any, .any, .any, .any, .any, .any, .any, .any, .any, .any, .any, .any, .any, .any, .any, .any, .any, .any, .any, .any, .any, .any, .any, .any, .any, .any, .any, .any, .any, .any, .any, .any, .any, .any, .any]) (fun j => σ ++ [.cells f.enc.cells, .cap i 1, .cells (bools (subRow f.ds.length (d.blocks.take j)))]) (fun j => d.blocks.length - j) (fun j => j ≤ d.blocks.length) 0 ?_ ?_ ?_
   ·exact ⟨Nat.zero_le _, by simp [Wk], rfl⟩
   ·refine fun y _ => ⟨?_, bel_app σ fun a ha => ?_⟩
    ·simp only [belL, AV.bel, Bool.and_true, Bool.true_and, Bool.and_eq_true, decide_eq_true_eq, List.length_append, List.length_cons, List.length_nil]
     refine ⟨by omega, ⟨by omega, belL_map _ _ fun _ _ => rowB_bel _ _⟩, by omega⟩
    ·simp only [List.mem_cons, List.not_mem_nil, or_false] at ha
     rcases ha with rfl | rfl | rfl
     ·exact file_bel f _
     ·rfl
     ·exact bools_bel _ _
   ·intro j hj
    refine AW.seq_k fun K11 hK11 => ?_
    refine AW.regl false [28] (by rfl) fun K12 hK12 => ?_
    simp only [go_sem, Nat.reduceAdd, Nat.reduceEqDiff, Nat.reduceLeDiff, FileM.enc, at_row hx, Dgm.enc]
    refine hK12 _ _ ?_
    conv => enter [5]; simp only [sl1, sl0, sz0, sz1]
    refine AW.cond rfl (fun hc28 => ?_) (fun hc28 => ?_)
    ·skip
     have hj1 : j < d.blocks.length := by simpa using hc28
     obtain ⟨b, hbk⟩ : ∃ z, z = d.blocks[j] := ⟨_, rfl⟩
     have hy : (d.blocks.map Blk.enc)[j]? = some b.enc := by rw [hbk]; simp [hj1]
     have hbm : b ∈ d.blocks := by rw [hbk]; exact List.getElem_mem hj1
     refine AW.skip ?_
     refine hK11 _ _ ?_
     refine AW.seq_k fun K13 hK13 => ?_
     refine AW.block ?_
     refine AW.regl false [8] (by rfl) fun K14 hK14 => ?_
     simp only [go_sem, Nat.reduceAdd, Nat.reduceEqDiff, Nat.reduceLeDiff, FileM.enc, at_row hx, Dgm.enc, at_row hy]
     refine hK14 _ _ ?_
     conv => enter [5]; simp only [sl1, sl0, sz0, sz1, upd_none, upd_at]
     refine AW.regl false [42] (by rfl) fun K15 hK15 => ?_
     simp only [go_sem, Nat.reduceAdd, Nat.reduceEqDiff, Nat.reduceLeDiff, Blk.enc]
     refine hK15 _ _ ?_
     conv => enter [5]; simp only [sl1, sl0, sz0, sz1]
     refine AW.cond rfl (fun hc42 => ?_) (fun hc42 => ?_)
     ·skip
      have hk7 : b.kind = 7 := by simpa using hc42
      obtain ⟨q, hq⟩ := Int.eq_ofNat_of_zero_le (hs d hdm b hbm hk7).1
      have hql : q < f.ds.length := by have := (hs d hdm b hbm hk7).2; omega
      have hatq := at_osl (o := σ.length + 2) (k := .i64) hql
      have hsz : q + 1 ≤ (bools (subRow f.ds.length (d.blocks.take j))).length := by simp [bools, subRow_len]; omega
      have hspq := spl_bool (d := (subRow f.ds.length (d.blocks.take j))) (i := q) (by rw [subRow_len]; omega) true
      refine AW.lastl false [] (by rfl) fun K hK => ?_
      simp only [go_sem, Nat.reduceAdd, Nat.reduceEqDiff, Nat.reduceLeDiff, Blk.enc, hq, hatq, hspq, if_pos hsz]
      refine hK _ _ fun env' hw => ?_
      simp only [setL_cons, setL_nil, List.set_cons_zero, List.set_cons_succ] at hw
      refine hK13 _ _ (AW.weaken hw ?_); clear hw
      refine AW.lastl false [7] (by rfl) fun K hK => ?_
      simp only [go_sem, Nat.reduceAdd, Nat.reduceEqDiff, Nat.reduceLeDiff]
      refine hK _ _ fun env' hw => ?_
      simp only [setL_cons, setL_nil, List.set_cons_zero, List.set_cons_succ] at hw
      refine ⟨j + 1, by omega, by omega, ?_, ?_⟩
      ·refine hw.trans ?_
       simp [Wk, wrap_succ hj1 hlb]
      ·rw [subRow_snoc hj1, ← hbk, hitS]
       simp [hc42, hq, file_cells, List.take_append, List.take_of_length_le]
     ·skip
      have hq : True := trivial
      refine AW.skip ?_
      refine hK13 _ _ ?_
      refine AW.lastl false [7] (by rfl) fun K hK => ?_
      simp only [go_sem, Nat.reduceAdd, Nat.reduceEqDiff, Nat.reduceLeDiff]
      refine hK _ _ fun env' hw => ?_
      simp only [setL_cons, setL_nil, List.set_cons_zero, List.set_cons_succ] at hw
      refine ⟨j + 1, by omega, by omega, ?_, ?_⟩
      ·refine hw.trans ?_
       simp [Wk, wrap_succ hj1 hlb]
      ·rw [subRow_snoc hj1, ← hbk, hitS]
       simp [hc42, hq, file_cells, List.take_append, List.take_of_length_le]
    ·skip
     have hj1 : j = d.blocks.length := by
      have : ¬ j < d.blocks.length := by simpa using hc28
      omega
     have hrow : (subRow f.ds.length (d.blocks.take j)) = subRow f.ds.length d.blocks := by rw [hj1, List.take_length]
     refine AW.exit ?_
     refine hK9 _ _ ?_
     refine AW.freeze σ.length (σ.length + 2) f.ds.length 1 (bools (subRow f.ds.length d.blocks)) ((app_get σ _ 2).trans (by rw [hrow]; rfl)) (bools_flat _) (by simp [bools, subRow_len]) (bools_one _) ?_
     rw [app_set, subFrom_app]
     conv => enter [5]; simp only [subL, AV.sub]
     conv => enter [6]; simp only [List.map_cons, List.map_nil, List.set_cons_succ, List.set_cons_zero, AO.sub]
     simp only [and_self, if_true]
     try rw [show [rowAV 4 f.nl (f.ds.map Dgm.enc)] = f.enc.cells from rfl]
     rw [subL_bel0 _ _ _ _ _ (file_bel f 0), subL_bel0 _ _ _ _ _ (belL_map _ _ fun _ _ => rowB_bel _ _), rowB_eq]
     have hap := Go.Proofs.Ev.app_at (en := (fun d : Dgm => rowB (subRow f.ds.length d.blocks))) hi1 (by omega) true 1 24 (by decide)
     have htk := take_at (fun d : Dgm => rowB (subRow f.ds.length d.blocks)) hi1
     rw [← hd] at htk
     have htk2 : List.take (i + 1) (f.ds.map (fun d : Dgm => rowB (subRow f.ds.length d.blocks))) = List.take i (f.ds.map (fun d : Dgm => rowB (subRow f.ds.length d.blocks))) ++ [rowB (subRow f.ds.length d.blocks)] := by rw [List.take_succ_eq_append_getElem (by simpa using hi1), List.getElem_map, hd]
     refine AW.lastl false [4] (by rfl) fun K hK => ?_
     simp only [go_sem, Nat.reduceAdd, Nat.reduceEqDiff, Nat.reduceLeDiff, hap, row1_101 _ (rowB (subRow f.ds.length d.blocks)) (rowB_len _) (rowB_all _), rowB_eq, htk]
     refine hK _ _ fun env' hw => ?_
     simp only [setL_cons, setL_nil, List.set_cons_zero, List.set_cons_succ] at hw
     refine hK7 _ _ (AW.weaken hw ?_); clear hw
     refine AW.lastl false [5] (by rfl) fun K hK => ?_
     simp only [go_sem, Nat.reduceAdd, Nat.reduceEqDiff, Nat.reduceLeDiff]
     refine hK _ _ fun env' hw => ?_
     simp only [setL_cons, setL_nil, List.set_cons_zero, List.set_cons_succ] at hw
     refine ⟨i + 1, by omega, by omega, ?_, by first | rfl | (simp [List.take_append, List.take_of_length_le]; done) | (simp [List.take_append, List.take_of_length_le]; repeat' constructor)⟩
     refine hw.trans ?_
     simp [Wk, wrap_succ hi1 hl, htk2]
     try omega
  ·skip
   have hi1 : i = f.ds.length := by
    have : ¬ i < f.ds.length := by simpa using hc13
    omega
   refine AW.exit ?_
   refine hK3 _ _ ?_
   rw [hi1, List.take_length]
   refine AW.stillT 4 rfl ?_
   simp only [still_slo, List.set_cons_zero, List.set_cons_succ]
   rw [sgs_map]
   refine AW.regl false [2, 3] (by rfl) fun K16 hK16 => ?_
   simp only [go_sem, Nat.reduceAdd, Nat.reduceEqDiff, Nat.reduceLeDiff]
   refine sC.of en34 (hc2.on _).here (by rfl) ?_
   simp only [go_sem, Nat.reduceAdd, Nat.reduceEqDiff, Nat.reduceLeDiff]
   refine hK16 _ _ ?_
   conv => enter [5]; simp only [sl1, sl0, sz0, sz1]
   refine AW.ret ⟨.inr rfl, _, rfl, by simp, ?_⟩
   exact .keep (ordV_bel _ _)
end Fl
end Go.Proofs.Tryd
/-! Flow: function 35. -/
namespace Go.Proofs.Tryd
set_option linter.unusedSimpArgs false
set_option linter.unusedVariables false
open Go Go.Proofs.Ev
namespace Fl
variable {Γ : List (Nat × List AV)} {w : AV} {G : List (Nat × List AV)}
attribute [local go_sem] true_and List.length_map len_row one_row List.drop_zero rdgm_get rblk_get rsrc_get dgm_all blk_all src_all dgm_cells
set_option maxRecDepth 100000 in
set_option maxHeartbeats 1000000 in
theorem rblocks_calls (d : Dgm) (hd : d.small) (hin : inB d) : APure prog Γ 35 [d.enc] (rowAV 1 true (d.blocks.map (fun b : Blk => rowB (rowF d.blocks.length b)))) := by
 refine APure.of func35 rfl fun σ => ?_
 simp only [ntmps35, List.length_cons, List.length_nil, Nat.reduceAdd, Nat.reduceSub, List.replicate_succ, List.replicate_zero, List.cons_append, List.nil_append]
 have hn : d.blocks.length ≤ 200 := hd.2.2.1
 have hl : d.blocks.length ≤ maxLen := by rw [maxLen_eq]; omega
 refine AW.regl false [1, 2] (by rfl) fun K1 hK1 => ?_
 simp only [go_sem, Nat.reduceAdd, Nat.reduceEqDiff, Nat.reduceLeDiff]
 refine hK1 _ _ ?_
 conv => enter [5]; simp only [sl1, sl0, sz0, sz1]
 refine AW.regl false [3] (by rfl) fun K2 hK2 => ?_
 simp only [go_sem, Nat.reduceAdd, Nat.reduceEqDiff, Nat.reduceLeDiff]
 refine hK2 _ _ ?_
 conv => enter [5]; simp only [sl1, sl0, sz0, sz1]
 refine AW.cap 1 ?_
 try simp only [List.append_assoc, List.cons_append, List.nil_append]
 refine AW.ownT 3 (σ.length + 1) rfl ((app_get _ _ 1).trans rfl) (by decide) ?_
 try simp only [List.set_cons_zero, List.set_cons_succ]
 refine AW.seq_k fun K3 hK3 => ?_
 refine AW.regl false [4] (by rfl) fun K4 hK4 => ?_
 simp only [go_sem, Nat.reduceAdd, Nat.reduceEqDiff, Nat.reduceLeDiff]
 refine hK4 _ _ ?_
 conv => enter [5]; simp only [sl1, sl0, sz0, sz1]
 refine AW.block ?_
 refine AW.loop_dr (α := Nat) (fun i => [.any, (.ref σ.length 0), .any, (.slo true 1 ((d.blocks.take i).map (fun b : Blk => rowB (rowF d.blocks.length b))) (σ.length + 1)), (.val (.int .i64 ((i : Nat) : Int))), .any, .any, .any, .any, .any, .any, .any, .any, .any, .any, .any, .any, .any, .any, .any, .any, .any, .any, .any, .any, .any, .any, .any, .any, .any, .any, .any, .any, .any, .any, .any, .any, .any, .any, .any, .any, .any, .any, .any, .any, .any, .any, .any, .any, .any, .any, .any, .any, .any, .any, .any, .any, .any, .any, .any]) (fun i => σ ++ [.cells (Dgm.enc d).cells, .cap i 1]) (fun i => d.blocks.length - i) (fun i => i ≤ d.blocks.length) 0 ?_ ?_ ?_
 ·exact ⟨Nat.zero_le _, by simp [Wk], rfl⟩
 ·refine fun y _ => ⟨?_, bel_app σ fun a ha => ?_⟩
  ·simp only [belL, AV.bel, Bool.and_true, Bool.true_and, Bool.and_eq_true, decide_eq_true_eq, List.length_append, List.length_cons, List.length_nil]
   refine ⟨by omega, ?_⟩
   exact ⟨by omega, belL_map _ _ fun _ _ => rowB_bel _ _⟩
  ·simp only [List.mem_cons, List.not_mem_nil, or_false] at ha
   rcases ha with rfl | rfl
   ·exact dgm_cbel' d _
   ·rfl
 ·intro i hi
  refine AW.seq_k fun K5 hK5 => ?_
  refine AW.regl false [12] (by rfl) fun K6 hK6 => ?_
  simp only [go_sem, Nat.reduceAdd, Nat.reduceEqDiff, Nat.reduceLeDiff]
  refine hK6 _ _ ?_
  conv => enter [5]; simp only [sl1, sl0, sz0, sz1]
  refine AW.cond rfl (fun hc12 => ?_) (fun hc12 => ?_)
  ·skip
   have hi1 : i < d.blocks.length := by simpa using hc12
   obtain ⟨b, hb⟩ : ∃ z, z = d.blocks[i] := ⟨_, rfl⟩
   have hx : (d.blocks.map Blk.enc)[i]? = some b.enc := by rw [hb]; simp [hi1]
   have hbm : b ∈ d.blocks := by rw [hb]; exact List.getElem_mem hi1
   have hlb : b.src.length ≤ maxLen := by rw [maxLen_eq]; have := hd.2.2.2.2 b hbm; omega
   refine AW.skip ?_
   refine hK5 _ _ ?_
   refine AW.seq_k fun K7 hK7 => ?_
   refine AW.block ?_
   refine AW.regl false [5] (by rfl) fun K8 hK8 => ?_
   simp only [go_sem, Nat.reduceAdd, Nat.reduceEqDiff, Nat.reduceLeDiff, mkB (show d.blocks.length ≤ 2000 by omega)]
   refine hK8 _ _ ?_
   conv => enter [5]; simp only [sl1, sl0, sz0, sz1]
   refine AW.seq_k fun K9 hK9 => ?_
   refine AW.regl false [6] (by rfl) fun K10 hK10 => ?_
   simp only [go_sem, Nat.reduceAdd, Nat.reduceEqDiff, Nat.reduceLeDiff]
   refine hK10 _ _ ?_
   conv => enter [5]; simp only [sl1, sl0, sz0, sz1]
   refine AW.block ?_
   refine AW.loop_dr (α := Nat) (fun j => [.any, (.ref σ.length 0), .any, (.slo true 1 ((d.blocks.take i).map (fun b : Blk => rowB (rowF d.blocks.length b))) (σ.length + 1)), (.val (.int .i64 ((i : Nat) : Int))), (.osl (σ.length + 2) 0 d.blocks.length 1), (.val (.int .i64 ((j : Nat) : Int))), .any, .any, .any, .any, .any, .any, .any, .any, .any, .any, .any, .any, .any, .any, .any, .any, .any, .any, .any, .any, .any, .any, .any, .any, .any, .any, .any, .any, .any, .any, .any, .any, .any, .any, .any, .any, .any, .any, .any, .any, .any, .any, .any, .any, .any, .any, .any, .any, .any, .any, .any, .any, .any]) (fun j => σ ++ [.cells d.enc.cells, .cap i 1, .cells (bools ((b.src.take j).foldl hit (List.replicate d.blocks.length false)))]) (fun j => b.src.length - j) (fun j => j ≤ b.src.length ∧ (b.kind = 4 → j = 0)) 0 ?_ ?_ ?_
   ·exact ⟨⟨Nat.zero_le _, fun _ => rfl⟩, by simp [Wk], rfl⟩
   ·refine fun y _ => ⟨?_, bel_app σ fun a ha => ?_⟩
    ·simp only [belL, AV.bel, Bool.and_true, Bool.true_and, Bool.and_eq_true, decide_eq_true_eq, List.length_append, List.length_cons, List.length_nil]
     refine ⟨by omega, ⟨by omega, belL_map _ _ fun _ _ => rowB_bel _ _⟩, by omega⟩
    ·simp only [List.mem_cons, List.not_mem_nil, or_false] at ha
     rcases ha with rfl | rfl | rfl
     ·exact dgm_cbel' d _
     ·rfl
     ·exact bools_bel _ _
   ·rintro j ⟨hj, hj4⟩
    refine AW.seq_k fun K11 hK11 => ?_
    refine AW.regtf false 36 (.val (.bool (decide (((j : Nat) : Int) < ((b.src.length : Nat) : Int)) && b.kind != 4))) (by rfl) ?_ ?_
    ·skip
     cases h27 : (decide (((j : Nat) : Int) < ((b.src.length : Nat) : Int)))
     ·skip
      simp only [go_sem, Nat.reduceAdd, Nat.reduceEqDiff, Nat.reduceLeDiff, at_row hx, Blk.enc, h27]
      try simp [upd_at, h27, List.length_map, len_row, one_row, List.drop_zero, rdgm_get, rblk_get, rsrc_get, dgm_all, blk_all, src_all, dgm_cells, at_row hx, Blk.enc]
     ·skip
      simp only [go_sem, Nat.reduceAdd, Nat.reduceEqDiff, Nat.reduceLeDiff, at_row hx, Blk.enc, h27]
      try simp [upd_at, h27, List.length_map, len_row, one_row, List.drop_zero, rdgm_get, rblk_get, rsrc_get, dgm_all, blk_all, src_all, dgm_cells, at_row hx, Blk.enc]
    conv => enter [5]; simp only [sz0, sz1]
    refine AW.cond rfl (fun hc36 => ?_) (fun hc36 => ?_)
    ·skip
     have hjk : j < b.src.length ∧ ¬ b.kind = 4 := by simpa using hc36
     obtain ⟨hj1, hk4⟩ := hjk
     obtain ⟨s, hs⟩ : ∃ z, z = b.src[j] := ⟨_, rfl⟩
     have hy : (b.src.map Src.enc)[j]? = some s.enc := by rw [hs]; simp [hj1]
     have hsm : s ∈ b.src := by rw [hs]; exact List.getElem_mem hj1
     refine AW.skip ?_
     refine hK11 _ _ ?_
     refine AW.seq_k fun K13 hK13 => ?_
     refine AW.block ?_
     refine AW.regl false [7] (by rfl) fun K14 hK14 => ?_
     simp only [go_sem, Nat.reduceAdd, Nat.reduceEqDiff, Nat.reduceLeDiff, at_row hx, Blk.enc, at_row hy]
     refine hK14 _ _ ?_
     conv => enter [5]; simp only [sl1, sl0, sz0, sz1, upd_none, upd_at]
     refine AW.regl false [50] (by rfl) fun K15 hK15 => ?_
     simp only [go_sem, Nat.reduceAdd, Nat.reduceEqDiff, Nat.reduceLeDiff, Src.enc]
     refine hK15 _ _ ?_
     conv => enter [5]; simp only [sl1, sl0, sz0, sz1]
     refine AW.cond rfl (fun hc50 => ?_) (fun hc50 => ?_)
     ·skip
      have hpos : s.block ≥ 0 := by simpa using hc50
      obtain ⟨q, hq⟩ := Int.eq_ofNat_of_zero_le hpos
      have hql : q < d.blocks.length := by have := hin b hbm s hsm; omega
      have hatq := at_osl (o := σ.length + 2) (k := .i64) hql
      have hlen : ((b.src.take j).foldl hit (List.replicate d.blocks.length false)).length = d.blocks.length := by rw [hits_len]; simp
      have hsz : q + 1 ≤ (bools ((b.src.take j).foldl hit (List.replicate d.blocks.length false))).length := by simp [bools]; omega
      have hspq := spl_bool (d := ((b.src.take j).foldl hit (List.replicate d.blocks.length false))) (i := q) (by omega) true
      refine AW.lastl false [] (by rfl) fun K hK => ?_
      simp only [go_sem, Nat.reduceAdd, Nat.reduceEqDiff, Nat.reduceLeDiff, Src.enc, hq, hatq, hspq, if_pos hsz]
      refine hK _ _ fun env' hw => ?_
      simp only [setL_cons, setL_nil, List.set_cons_zero, List.set_cons_succ] at hw
      refine hK13 _ _ (AW.weaken hw ?_); clear hw
      refine AW.lastl false [6] (by rfl) fun K hK => ?_
      simp only [go_sem, Nat.reduceAdd, Nat.reduceEqDiff, Nat.reduceLeDiff]
      refine hK _ _ fun env' hw => ?_
      simp only [setL_cons, setL_nil, List.set_cons_zero, List.set_cons_succ] at hw
      refine ⟨j + 1, by omega, ⟨by omega, fun h => absurd h hk4⟩, ?_, ?_⟩
      ·refine hw.trans ?_
       simp [Wk, wrap_succ hj1 hlb]
      ·rw [hits_snoc hj1, ← hs, hit]
       first
       | (simp [hpos, hq, dgm_cells, List.take_append, List.take_of_length_le]; done)
       | (simp [hpos, dgm_cells, List.take_append, List.take_of_length_le]; done)
     ·skip
      have hpos : ¬ s.block ≥ 0 := by simpa using hc50
      refine AW.skip ?_
      refine hK13 _ _ ?_
      refine AW.lastl false [6] (by rfl) fun K hK => ?_
      simp only [go_sem, Nat.reduceAdd, Nat.reduceEqDiff, Nat.reduceLeDiff]
      refine hK _ _ fun env' hw => ?_
      simp only [setL_cons, setL_nil, List.set_cons_zero, List.set_cons_succ] at hw
      refine ⟨j + 1, by omega, ⟨by omega, fun h => absurd h hk4⟩, ?_, ?_⟩
      ·refine hw.trans ?_
       simp [Wk, wrap_succ hj1 hlb]
      ·rw [hits_snoc hj1, ← hs, hit]
       first
       | (simp [hpos, hq, dgm_cells, List.take_append, List.take_of_length_le]; done)
       | (simp [hpos, dgm_cells, List.take_append, List.take_of_length_le]; done)
    ·skip
     have hrow : ((b.src.take j).foldl hit (List.replicate d.blocks.length false)) = rowF d.blocks.length b := by
      unfold rowF
      split
      ·rename_i h4
       rw [hj4 h4]
       rfl
      ·rename_i h4
       have : ¬ j < b.src.length := fun h => by simp [h, h4] at hc36
       rw [List.take_of_length_le (by omega)]
     refine AW.exit ?_
     refine hK9 _ _ ?_
     refine AW.freeze σ.length (σ.length + 2) d.blocks.length 1 (bools (rowF d.blocks.length b)) ((app_get σ _ 2).trans (by rw [hrow]; rfl)) (bools_flat _) (by simp [bools, rowF_len]) (bools_one _) ?_
     rw [app_set, subFrom_app]
     conv => enter [5]; simp only [subL, AV.sub]
     conv => enter [6]; simp only [List.map_cons, List.map_nil, List.set_cons_succ, List.set_cons_zero, AO.sub]
     simp only [and_self, if_true]
     rw [subL_bel0 _ _ _ _ _ (dgm_cb d 0), subL_bel0 _ _ _ _ _ (belL_map _ _ fun _ _ => rowB_bel _ _), rowB_eq]
     have hap := Go.Proofs.Ev.app_at (en := (fun b : Blk => rowB (rowF d.blocks.length b))) hi1 (by omega) true 1 24 (by decide)
     have htk := take_at (fun b : Blk => rowB (rowF d.blocks.length b)) hi1
     have htk2 : List.take (i + 1) (d.blocks.map (fun b : Blk => rowB (rowF d.blocks.length b))) = List.take i (d.blocks.map (fun b : Blk => rowB (rowF d.blocks.length b))) ++ [rowB (rowF d.blocks.length b)] := by rw [List.take_succ_eq_append_getElem (by simpa using hi1), List.getElem_map, hb]
     refine AW.lastl false [3] (by rfl) fun K hK => ?_
     simp only [go_sem, Nat.reduceAdd, Nat.reduceEqDiff, Nat.reduceLeDiff, hap, row1_101 _ (rowB (rowF d.blocks.length b)) (rowB_len _) (rowB_all _), rowB_eq, htk]
     refine hK _ _ fun env' hw => ?_
     simp only [setL_cons, setL_nil, List.set_cons_zero, List.set_cons_succ] at hw
     refine hK7 _ _ (AW.weaken hw ?_); clear hw
     refine AW.lastl false [4] (by rfl) fun K hK => ?_
     simp only [go_sem, Nat.reduceAdd, Nat.reduceEqDiff, Nat.reduceLeDiff]
     refine hK _ _ fun env' hw => ?_
     simp only [setL_cons, setL_nil, List.set_cons_zero, List.set_cons_succ] at hw
     refine ⟨i + 1, by omega, by omega, ?_, by first | rfl | (simp [List.take_append, List.take_of_length_le]; done) | (simp [List.take_append, List.take_of_length_le]; repeat' constructor)⟩
     refine hw.trans ?_
     simp [Wk, wrap_succ hi1 hl, htk2]
     try omega
  ·skip
   have hi1 : i = d.blocks.length := by
    have : ¬ i < d.blocks.length := by simpa using hc12
    omega
   refine AW.exit ?_
   refine hK3 _ _ ?_
   refine AW.regl false [2] (by rfl) fun K16 hK16 => ?_
   simp only [go_sem, Nat.reduceAdd, Nat.reduceEqDiff, Nat.reduceLeDiff]
   refine hK16 _ _ ?_
   conv => enter [5]; simp only [sl1, sl0, sz0, sz1]
   refine AW.ret ⟨.inr rfl, _, rfl, by simp, ?_⟩
   rw [hi1, List.take_length]
   exact frz_row (fun _ _ => rowB_bel _ _) (by omega) d.blocks
end Fl
end Go.Proofs.Tryd
/-! Flow: function 12. -/
namespace Go.Proofs.Tryd
set_option linter.unusedSimpArgs false
set_option linter.unusedVariables false
open Go Go.Proofs.Ev
namespace Fl
variable {Γ : List (Nat × List AV)} {w : AV} {G : List (Nat × List AV)}
attribute [local go_sem] true_and List.length_map len_row one_row List.drop_zero blk_len dgm_len port_len out_len src_len file_len rdgm_get rblk_get rsrc_get rfile_get dgm_all blk_all src_all file_all
set_option maxRecDepth 100000 in
theorem rorder_calls (d : Dgm) (hd : d.small) (hin : inB d) : APure prog Γ 12 [d.enc] (ordV (ordD d)) := by
 refine APure.of func12 rfl fun σ => ?_
 simp only [ntmps12, List.length_cons, List.length_nil, Nat.reduceAdd, Nat.reduceSub, List.replicate_succ, List.replicate_zero, List.cons_append, List.nil_append]
 have hn : d.blocks.length ≤ 200 := hd.2.2.1
 have hc1 := rblocks_calls (Γ := Γ) d hd hin
 rw [hgs_map] at hc1
 have hc2 := rsortD (Γ := Γ) d (by omega)
 unfold ordV at hc2 ⊢
 refine AW.regl false [1, 2, 3] (by rfl) fun K1 hK1 => ?_
 simp only [go_sem, Nat.reduceAdd, Nat.reduceEqDiff, Nat.reduceLeDiff]
 refine hK1 _ _ ?_
 conv => enter [5]; simp only [sl1, sl0, sz0, sz1]
 refine AW.regl false [2, 3] (by rfl) fun K2 hK2 => ?_
 simp only [go_sem, Nat.reduceAdd, Nat.reduceEqDiff, Nat.reduceLeDiff]
 refine sC.of en35 (hc1.on _).here (by rfl) ?_
 simp only [go_sem, Nat.reduceAdd, Nat.reduceEqDiff, Nat.reduceLeDiff]
 refine sC.of en34 (hc2.on _).here (by rfl) ?_
 simp only [go_sem, Nat.reduceAdd, Nat.reduceEqDiff, Nat.reduceLeDiff]
 refine hK2 _ _ ?_
 conv => enter [5]; simp only [sl1, sl0, sz0, sz1]
 refine AW.ret ⟨.inr rfl, _, rfl, by simp, ?_⟩
 exact .keep (ordV_bel _ _)
end Fl
end Go.Proofs.Tryd
/-! Flow: function 16. -/
namespace Go.Proofs.Tryd
set_option linter.unusedSimpArgs false
set_option linter.unusedVariables false
open Go Go.Proofs.Ev
namespace Fl
variable {Γ : List (Nat × List AV)} {w : AV} {G : List (Nat × List AV)}
attribute [local go_sem] true_and List.length_map len_row one_row List.drop_zero blk_len dgm_len port_len out_len src_len file_len rdgm_get rblk_get rsrc_get rfile_get dgm_all blk_all src_all file_all
set_option maxRecDepth 100000 in
theorem rtype_step (f : FileM) (d : Dgm) (n : Nat) (hw : ∀ b ∈ d.blocks, WfB f b) (IH : ∀ s, Dp d n s → APure prog Γ 16 [f.enc, d.enc, s.enc] (i64 (typ f d n s))) (s : Src) (hs : Dp d (n + 1) s) : APure prog Γ 16 [f.enc, d.enc, s.enc] (i64 (typ f d (n + 1) s)) := by
 refine APure.of func16 rfl fun σ => ?_
 simp only [ntmps16, List.length_cons, List.length_nil, Nat.reduceAdd, Nat.reduceSub, List.replicate_succ, List.replicate_zero, List.cons_append, List.nil_append]
 refine AW.regl false [3, 4, 5, 6] (by rfl) fun K1 hK1 => ?_
 simp only [go_sem, Nat.reduceAdd, Nat.reduceEqDiff, Nat.reduceLeDiff, Src.enc]
 refine hK1 _ _ ?_
 conv => enter [5]; simp only [sl1, sl0, sz0, sz1]
 refine AW.seq_k fun K2 hK2 => ?_
 refine AW.regtf false 23 (.val (.bool (((decide (s.port < 0)) || (decide (s.block < (-1)))) || (decide (s.block ≥ ((d.blocks.length : Nat) : Int)))))) (by rfl) ?_ ?_
 ·skip
  cases h10 : ((decide (s.port < 0)))
  ·skip
   cases h14 : ((decide (s.block < (-1))))
   ·skip
    simp only [go_sem, Nat.reduceAdd, Nat.reduceEqDiff, Nat.reduceLeDiff, Src.enc, Dgm.enc, h10, h14]
    try simp [upd_at, h10, h14, List.length_map, len_row, one_row, List.drop_zero, blk_len, dgm_len, port_len, out_len, src_len, file_len, rdgm_get, rblk_get, rsrc_get, rfile_get, dgm_all, blk_all, src_all, file_all, Src.enc, Dgm.enc]
   ·skip
    simp only [go_sem, Nat.reduceAdd, Nat.reduceEqDiff, Nat.reduceLeDiff, Src.enc, Dgm.enc, h10, h14]
    try simp [upd_at, h10, h14, List.length_map, len_row, one_row, List.drop_zero, blk_len, dgm_len, port_len, out_len, src_len, file_len, rdgm_get, rblk_get, rsrc_get, rfile_get, dgm_all, blk_all, src_all, file_all, Src.enc, Dgm.enc]
  ·skip
   simp only [go_sem, Nat.reduceAdd, Nat.reduceEqDiff, Nat.reduceLeDiff, Src.enc, Dgm.enc, h10]
   try simp [upd_at, h10, List.length_map, len_row, one_row, List.drop_zero, blk_len, dgm_len, port_len, out_len, src_len, file_len, rdgm_get, rblk_get, rsrc_get, rfile_get, dgm_all, blk_all, src_all, file_all, Src.enc, Dgm.enc]
 conv => enter [5]; simp only [sz0, sz1]
 refine AW.cond rfl (fun hc23 => ?_) (fun hc23 => ?_)
 ·skip
  refine AW.regl false [6] (by rfl) fun K4 hK4 => ?_
  simp only [go_sem, Nat.reduceAdd, Nat.reduceEqDiff, Nat.reduceLeDiff]
  refine hK4 _ _ ?_
  conv => enter [5]; simp only [sl1, sl0, sz0, sz1]
  refine AW.ret ⟨.inr rfl, _, rfl, by simp, ?_⟩
  refine frzI ?_
  simp only [typ]
  rw [if_pos hc23]
 ·skip
  have h0 : (0 ≤ s.port ∧ -1 ≤ s.block) ∧ s.block < (d.blocks.length : Int) := by simpa using hc23
  refine AW.skip ?_
  refine hK2 _ _ ?_
  refine AW.seq_k fun K5 hK5 => ?_
  refine AW.regl false [26] (by rfl) fun K6 hK6 => ?_
  simp only [go_sem, Nat.reduceAdd, Nat.reduceEqDiff, Nat.reduceLeDiff, Src.enc]
  refine hK6 _ _ ?_
  conv => enter [5]; simp only [sl1, sl0, sz0, sz1]
  refine AW.cond rfl (fun hc26 => ?_) (fun hc26 => ?_)
  ·skip
   have hb1 : s.block = -1 := by simpa using hc26
   refine AW.seq_k fun K7 hK7 => ?_
   refine AW.regl false [32] (by rfl) fun K8 hK8 => ?_
   simp only [go_sem, Nat.reduceAdd, Nat.reduceEqDiff, Nat.reduceLeDiff, Src.enc, Dgm.enc]
   refine hK8 _ _ ?_
   conv => enter [5]; simp only [sl1, sl0, sz0, sz1]
   refine AW.cond rfl (fun hc32 => ?_) (fun hc32 => ?_)
   ·skip
    refine AW.regl false [6] (by rfl) fun K9 hK9 => ?_
    simp only [go_sem, Nat.reduceAdd, Nat.reduceEqDiff, Nat.reduceLeDiff]
    refine hK9 _ _ ?_
    conv => enter [5]; simp only [sl1, sl0, sz0, sz1]
    refine AW.ret ⟨.inr rfl, _, rfl, by simp, ?_⟩
    refine frzI ?_
    simp only [typ]
    rw [if_neg (ne_true_of_eq_false hc23), if_pos hc26, if_pos hc32]
   ·skip
    obtain ⟨j, hj⟩ := Int.eq_ofNat_of_zero_le h0.1.1
    have hjl : j < d.ins.length := by
     have : ¬ s.port ≥ ((d.ins.length : Nat) : Int) := by simpa using hc32
     omega
    obtain ⟨p, hp⟩ : ∃ z, z = d.ins[j] := ⟨_, rfl⟩
    have hy : (d.ins.map PortM.enc)[j]? = some p.enc := by rw [hp]; simp [hjl]
    have hpj : d.ins[s.port.toNat]? = some p := by rw [hj, Int.toNat_natCast, hp, List.getElem?_eq_getElem hjl]
    refine AW.skip ?_
    refine hK7 _ _ ?_
    refine AW.regl false [6] (by rfl) fun K10 hK10 => ?_
    simp only [go_sem, Nat.reduceAdd, Nat.reduceEqDiff, Nat.reduceLeDiff, Src.enc, Dgm.enc, hj, at_row hy, PortM.enc]
    refine hK10 _ _ ?_
    conv => enter [5]; simp only [sl1, sl0, sz0, sz1]
    refine AW.ret ⟨.inr rfl, _, rfl, by simp, ?_⟩
    refine frzI ?_
    simp only [typ]
    rw [if_neg (ne_true_of_eq_false hc23), if_pos hc26, if_neg (ne_true_of_eq_false hc32), hpj]
  ·skip
   have hb1 : ¬ s.block = -1 := by simpa using hc26
   obtain ⟨q, hq⟩ := Int.eq_ofNat_of_zero_le (show 0 ≤ s.block by omega)
   have hql : q < d.blocks.length := by omega
   obtain ⟨b, hb⟩ : ∃ z, z = d.blocks[q] := ⟨_, rfl⟩
   have hx : (d.blocks.map Blk.enc)[q]? = some b.enc := by rw [hb]; simp [hql]
   have hbm : b ∈ d.blocks := by rw [hb]; exact List.getElem_mem hql
   have hbq : d.blocks[s.block.toNat]? = some b := by rw [hq, Int.toNat_natCast, hb, List.getElem?_eq_getElem hql]
   have hwb := hw b hbm
   refine AW.skip ?_
   refine hK5 _ _ ?_
   refine AW.regl false [7] (by rfl) fun K11 hK11 => ?_
   simp only [go_sem, Nat.reduceAdd, Nat.reduceEqDiff, Nat.reduceLeDiff, Src.enc, Dgm.enc, hq, at_row hx]
   refine hK11 _ _ ?_
   conv => enter [5]; simp only [sl1, sl0, sz0, sz1, upd_none, upd_at]
   refine AW.seq_k fun K12 hK12 => ?_
   refine AW.regdl mixed false [51] (by kernel_rfl) (by rfl) fun K13 hK13 => ?_
   simp only [go_sem, Nat.reduceAdd, Nat.reduceEqDiff, Nat.reduceLeDiff, Src.enc]
   refine qC.of en37 ((rresults_calls f b).on _).here (by rfl) ?_
   simp only [go_sem, Nat.reduceAdd, Nat.reduceEqDiff, Nat.reduceLeDiff, Src.enc]
   refine hK13 _ ?_
   conv => enter [5]; simp only [sl1, sl0, sz0, sz1]
   refine AW.cond rfl (fun hc51 => ?_) (fun hc51 => ?_)
   ·skip
    refine AW.regl false [6] (by rfl) fun K14 hK14 => ?_
    simp only [go_sem, Nat.reduceAdd, Nat.reduceEqDiff, Nat.reduceLeDiff]
    refine hK14 _ _ ?_
    conv => enter [5]; simp only [sl1, sl0, sz0, sz1]
    refine AW.ret ⟨.inr rfl, _, rfl, by simp, ?_⟩
    refine frzI ?_
    simp only [typ, hbq]
    rw [if_neg (ne_true_of_eq_false hc23), if_neg (ne_true_of_eq_false hc26), if_pos hc51]
   ·skip
    have hpr : ¬ s.port ≥ f.results b := by simpa using hc51
    have htyp : typ f d (n + 1) s = typB f (typ f d n) b s.port := by
     simp only [typ, hbq]
     rw [if_neg (ne_true_of_eq_false hc23), if_neg (ne_true_of_eq_false hc26), if_neg (ne_true_of_eq_false hc51)]
    refine AW.skip ?_
    refine hK12 _ _ ?_
    refine AW.seq_k fun K15 hK15 => ?_
    refine AW.regl false [53] (by rfl) fun K16 hK16 => ?_
    simp only [go_sem, Nat.reduceAdd, Nat.reduceEqDiff, Nat.reduceLeDiff, Blk.enc]
    refine hK16 _ _ ?_
    conv => enter [5]; simp only [sl1, sl0, sz0, sz1]
    refine AW.block ?_
    refine AW.regl false [54] (by rfl) fun K17 hK17 => ?_
    simp only [go_sem, Nat.reduceAdd, Nat.reduceEqDiff, Nat.reduceLeDiff]
    refine hK17 _ _ ?_
    conv => enter [5]; simp only [sl1, sl0, sz0, sz1]
    refine AW.cond rfl (fun hc54 => ?_) (fun hc54 => ?_)
    ·skip
     refine AW.regl false [6] (by rfl) fun K18 hK18 => ?_
     simp only [go_sem, Nat.reduceAdd, Nat.reduceEqDiff, Nat.reduceLeDiff]
     refine hK18 _ _ ?_
     conv => enter [5]; simp only [sl1, sl0, sz0, sz1]
     refine AW.ret ⟨.inr rfl, _, rfl, by simp, ?_⟩
     refine frzI (htyp.trans ?_).symm
     unfold typB
     rw [if_pos hc54]
    ·skip
     refine AW.regl false [56] (by rfl) fun K19 hK19 => ?_
     simp only [go_sem, Nat.reduceAdd, Nat.reduceEqDiff, Nat.reduceLeDiff]
     refine hK19 _ _ ?_
     conv => enter [5]; simp only [sl1, sl0, sz0, sz1]
     refine AW.cond rfl (fun hc56 => ?_) (fun hc56 => ?_)
     ·skip
      refine AW.regl false [6] (by rfl) fun K20 hK20 => ?_
      simp only [go_sem, Nat.reduceAdd, Nat.reduceEqDiff, Nat.reduceLeDiff]
      refine hK20 _ _ ?_
      conv => enter [5]; simp only [sl1, sl0, sz0, sz1]
      refine AW.ret ⟨.inr rfl, _, rfl, by simp, ?_⟩
      refine frzI (htyp.trans ?_).symm
      unfold typB
      rw [if_neg (ne_true_of_eq_false hc54), if_pos hc56]
     ·skip
      refine AW.seq_k fun K21 hK21 => ?_
      refine AW.regl false [58] (by rfl) fun K22 hK22 => ?_
      simp only [go_sem, Nat.reduceAdd, Nat.reduceEqDiff, Nat.reduceLeDiff]
      refine hK22 _ _ ?_
      conv => enter [5]; simp only [sl1, sl0, sz0, sz1]
      refine AW.cond rfl (fun hc58 => ?_) (fun hc58 => ?_)
      ·skip
       have hs58 := hc58
       refine AW.skip ?_
       refine hK21 _ _ ?_
       refine AW.cond rfl (fun hc58 => ?_) (fun hc58 => ?_)
       ·skip
        have e24 : ((b.kind == 2) || (b.kind == 4)) = true := by rw [hs58]; rfl
        refine AW.regl false [6] (by rfl) fun K23 hK23 => ?_
        simp only [go_sem, Nat.reduceAdd, Nat.reduceEqDiff, Nat.reduceLeDiff, Blk.enc]
        refine hK23 _ _ ?_
        conv => enter [5]; simp only [sl1, sl0, sz0, sz1]
        refine AW.ret ⟨.inr rfl, _, rfl, by simp, ?_⟩
        refine frzI (htyp.trans ?_).symm
        unfold typB
        rw [if_neg (ne_true_of_eq_false hc54), if_neg (ne_true_of_eq_false hc56), if_pos e24]
       ·skip
        rw [hs58] at hc58; cases hc58
      ·skip
       have n2 : ¬ b.kind = 2 := by simpa using hc58
       refine AW.lastl false [58] (by rfl) fun K hK => ?_
       simp only [go_sem, Nat.reduceAdd, Nat.reduceEqDiff, Nat.reduceLeDiff]
       refine hK _ _ fun env' hw => ?_
       simp only [setL_cons, setL_nil, List.set_cons_zero, List.set_cons_succ] at hw
       refine hK21 _ _ (AW.weaken hw ?_); clear hw
       refine AW.cond rfl (fun hc58 => ?_) (fun hc58 => ?_)
       ·skip
        have e24 : ((b.kind == 2) || (b.kind == 4)) = true := by rw [hc58]; simp
        refine AW.regl false [6] (by rfl) fun K24 hK24 => ?_
        simp only [go_sem, Nat.reduceAdd, Nat.reduceEqDiff, Nat.reduceLeDiff, Blk.enc]
        refine hK24 _ _ ?_
        conv => enter [5]; simp only [sl1, sl0, sz0, sz1]
        refine AW.ret ⟨.inr rfl, _, rfl, by simp, ?_⟩
        refine frzI (htyp.trans ?_).symm
        unfold typB
        rw [if_neg (ne_true_of_eq_false hc54), if_neg (ne_true_of_eq_false hc56), if_pos e24]
       ·skip
        have n24 : ¬ ((b.kind == 2) || (b.kind == 4)) = true := by
         have h4 : ¬ b.kind = 4 := by simpa using hc58
         simp [n2, h4]
        refine AW.regl false [63] (by rfl) fun K25 hK25 => ?_
        simp only [go_sem, Nat.reduceAdd, Nat.reduceEqDiff, Nat.reduceLeDiff]
        refine hK25 _ _ ?_
        conv => enter [5]; simp only [sl1, sl0, sz0, sz1]
        refine AW.cond rfl (fun hc63 => ?_) (fun hc63 => ?_)
        ·skip
         refine AW.seq_k fun K26 hK26 => ?_
         refine AW.regl false [67] (by rfl) fun K27 hK27 => ?_
         simp only [go_sem, Nat.reduceAdd, Nat.reduceEqDiff, Nat.reduceLeDiff, Blk.enc]
         refine hK27 _ _ ?_
         conv => enter [5]; simp only [sl1, sl0, sz0, sz1]
         refine AW.cond rfl (fun hc67 => ?_) (fun hc67 => ?_)
         ·skip
          refine AW.regl false [6] (by rfl) fun K28 hK28 => ?_
          simp only [go_sem, Nat.reduceAdd, Nat.reduceEqDiff, Nat.reduceLeDiff]
          refine hK28 _ _ ?_
          conv => enter [5]; simp only [sl1, sl0, sz0, sz1]
          refine AW.ret ⟨.inr rfl, _, rfl, by simp, ?_⟩
          refine frzI (htyp.trans ?_).symm
          unfold typB
          rw [if_neg (ne_true_of_eq_false hc54), if_neg (ne_true_of_eq_false hc56), if_neg n24, if_pos hc63, if_pos hc67]
         ·skip
          refine AW.skip ?_
          refine hK26 _ _ ?_
          refine AW.regl false [6] (by rfl) fun K29 hK29 => ?_
          simp only [go_sem, Nat.reduceAdd, Nat.reduceEqDiff, Nat.reduceLeDiff]
          refine hK29 _ _ ?_
          conv => enter [5]; simp only [sl1, sl0, sz0, sz1]
          refine AW.ret ⟨.inr rfl, _, rfl, by simp, ?_⟩
          refine frzI (htyp.trans ?_).symm
          unfold typB
          rw [if_neg (ne_true_of_eq_false hc54), if_neg (ne_true_of_eq_false hc56), if_neg n24, if_pos hc63, if_neg (ne_true_of_eq_false hc67)]
        ·skip
         refine AW.regl false [68] (by rfl) fun K30 hK30 => ?_
         simp only [go_sem, Nat.reduceAdd, Nat.reduceEqDiff, Nat.reduceLeDiff]
         refine hK30 _ _ ?_
         conv => enter [5]; simp only [sl1, sl0, sz0, sz1]
         refine AW.cond rfl (fun hc68 => ?_) (fun hc68 => ?_)
         ·skip
          have h5 : b.kind = 5 := by simpa using hc68
          have hl5 := hwb.two h5
          obtain ⟨s0, hs0⟩ : ∃ z, b.src[0]? = some z := ⟨_, List.getElem?_eq_getElem (by omega)⟩
          have hy0 : (b.src.map Src.enc)[0]? = some s0.enc := by simp [hs0]
          have hr0 : aAt 2 (rowAV 2 b.nl (b.src.map Src.enc)) (.val (.int .i64 0)) = some (.er s0.enc.cells) := at_row (i := 0) hy0
          have hdp := (hs (by omega) b hbq).1 h5 s0 hs0
          refine AW.regdl mixed false [6] (by kernel_rfl) (by rfl) fun K31 hK31 => ?_
          simp only [go_sem, Nat.reduceAdd, Nat.reduceEqDiff, Nat.reduceLeDiff, Blk.enc, hr0]
          refine qC.of en16 ((IH s0 hdp).on _).here (by rfl) ?_
          simp only [go_sem, Nat.reduceAdd, Nat.reduceEqDiff, Nat.reduceLeDiff, Blk.enc, hr0]
          refine hK31 _ ?_
          conv => enter [5]; simp only [sl1, sl0, sz0, sz1]
          refine AW.ret ⟨.inr rfl, _, rfl, by simp, ?_⟩
          refine frzI (htyp.trans ?_).symm
          unfold typB
          rw [if_neg (ne_true_of_eq_false hc54), if_neg (ne_true_of_eq_false hc56), if_neg n24, if_neg (ne_true_of_eq_false hc63), if_pos hc68, hs0]
         ·skip
          refine AW.regl false [77] (by rfl) fun K32 hK32 => ?_
          simp only [go_sem, Nat.reduceAdd, Nat.reduceEqDiff, Nat.reduceLeDiff]
          refine hK32 _ _ ?_
          conv => enter [5]; simp only [sl1, sl0, sz0, sz1]
          refine AW.cond rfl (fun hc77 => ?_) (fun hc77 => ?_)
          ·skip
           have h6 : b.kind = 6 := by simpa using hc77
           have hl6 := hwb.three h6
           obtain ⟨s1, hs1⟩ : ∃ z, b.src[1]? = some z := ⟨_, List.getElem?_eq_getElem (by omega)⟩
           have hy1 : (b.src.map Src.enc)[1]? = some s1.enc := by simp [hs1]
           have hr1 : aAt 2 (rowAV 2 b.nl (b.src.map Src.enc)) (.val (.int .i64 1)) = some (.er s1.enc.cells) := at_row (i := 1) hy1
           have hdp := (hs (by omega) b hbq).2 h6 s1 hs1
           refine AW.regdl mixed false [6] (by kernel_rfl) (by rfl) fun K33 hK33 => ?_
           simp only [go_sem, Nat.reduceAdd, Nat.reduceEqDiff, Nat.reduceLeDiff, Blk.enc, hr1]
           refine qC.of en16 ((IH s1 hdp).on _).here (by rfl) ?_
           simp only [go_sem, Nat.reduceAdd, Nat.reduceEqDiff, Nat.reduceLeDiff, Blk.enc, hr1]
           refine hK33 _ ?_
           conv => enter [5]; simp only [sl1, sl0, sz0, sz1]
           refine AW.ret ⟨.inr rfl, _, rfl, by simp, ?_⟩
           refine frzI (htyp.trans ?_).symm
           unfold typB
           rw [if_neg (ne_true_of_eq_false hc54), if_neg (ne_true_of_eq_false hc56), if_neg n24, if_neg (ne_true_of_eq_false hc63), if_neg (ne_true_of_eq_false hc68), if_pos hc77, hs1]
          ·skip
           have h7 : b.kind = 7 := by
            have h1 := hwb.lo
            have h2 := hwb.hi
            have h3 : ¬ b.kind = 2 ∧ ¬ b.kind = 4 := by simpa using n24
            simp at hc54 hc56 hc63 hc68 hc77
            omega
           obtain ⟨u, hu⟩ := Int.eq_ofNat_of_zero_le (hwb.sub h7).1
           have hul : u < f.ds.length := by have := (hwb.sub h7).2; omega
           obtain ⟨e, he⟩ : ∃ z, f.ds[u]? = some z := ⟨_, List.getElem?_eq_getElem hul⟩
           have hz : (f.ds.map Dgm.enc)[u]? = some e.enc := by simp [he]
           obtain ⟨j, hj⟩ := Int.eq_ofNat_of_zero_le h0.1.1
           have hjl : j < e.outs.length := by rw [results7 h7 hu he] at hpr; omega
           obtain ⟨o, ho⟩ : ∃ z, e.outs[j]? = some z := ⟨_, List.getElem?_eq_getElem hjl⟩
           have hw' : (e.outs.map OutM.enc)[j]? = some o.enc := by simp [ho]
           refine AW.skip ?_
           refine hK15 _ _ ?_
           refine AW.regdl mixed false [6] (by kernel_rfl) (by rfl) fun K34 hK34 => ?_
           simp only [go_sem, Nat.reduceAdd, Nat.reduceEqDiff, Nat.reduceLeDiff, FileM.enc, Blk.enc, hu, at_row hz, Dgm.enc, Src.enc, hj, at_row hw', OutM.enc]
           refine hK34 _ ?_
           conv => enter [5]; simp only [sl1, sl0, sz0, sz1]
           refine AW.ret ⟨.inr rfl, _, rfl, by simp, ?_⟩
           refine frzI (htyp.trans ?_).symm
           unfold typB
           rw [if_neg (ne_true_of_eq_false hc54), if_neg (ne_true_of_eq_false hc56), if_neg n24, if_neg (ne_true_of_eq_false hc63), if_neg (ne_true_of_eq_false hc68), if_neg (ne_true_of_eq_false hc77), hu, hj, Int.toNat_natCast, Int.toNat_natCast, he]
           simp only [ho]
theorem rtype_calls (f : FileM) (d : Dgm) (hw : ∀ b ∈ d.blocks, WfB f b) : ∀ (n : Nat) (s : Src), Dp d n s → APure prog Γ 16 [f.enc, d.enc, s.enc] (i64 (typ f d n s))
 | 0, _, h => h.elim
 | n + 1, s, h => rtype_step f d n hw (rtype_calls f d hw n) s h
end Fl
end Go.Proofs.Tryd
