import Derived.Test.YteekpkbmkibacaaDoorDiagNames
import Derived.Test.YteekpkbmkibacaaDoorDiagS
import Derived.Test.YteekpkbmkibacaaDoorDiagT
import Derived.Test.YteekpkbmkibacaaDoorDiagU
import Derived.Test.YteekpkbmkibacaaDoorDiagV
import Derived.Test.YteekpkbmkibacaaDoorDiagK
/-! The law DiagTells. -/
namespace Go.Proofs.Tryd
set_option linter.unusedSimpArgs false
set_option linter.unusedVariables false
open Go Go.Proofs.Ev
variable {Γ : List (Nat × List AV)}
set_option maxRecDepth 100000 in
set_option maxHeartbeats 1000000 in
theorem diagTells_calls (f o : FileM) (b : Blk) (hf : f.ok) (ho : o.ok) (hn : f.fit) : APure prog GK 5 [f.enc, o.enc, b.enc] (.val (.bool true)) := by
  refine APure.of func5 rfl fun σ => ?_
  simp only [ntmps5, List.length_cons, List.length_nil, Nat.reduceAdd, Nat.reduceSub, List.replicate_succ, List.replicate_zero, List.cons_append, List.nil_append]
  refine AW.regl false [3, 4, 5, 6] (by rfl) fun K1 hK1 => ?_ -- region 0
  simp only [go_sem, Nat.reduceAdd, Nat.reduceEqDiff, Nat.reduceLeDiff, true_and, file_all, blk_all, file_get, rfile_get, rblk_get, List.length_map, file_len]
  refine hK1 _ _ ?_; try clear hK1 K1
  conv => enter [4]; simp only [setL_cons, setL_nil, List.set_cons_zero, List.set_cons_succ]
  refine AW.seq_k fun K2 hK2 => ?_
  refine AW.regtf false 19 (.val (.bool ((f.great || o.great) || decide ((b.src.length : Int) > 40)))) (by rfl) ?_ ?_ -- region 1
  · skip
    cases h9 : (f.great)
    · skip
      cases h12 : (o.great)
      · skip
        simp only [go_sem, Nat.reduceAdd, Nat.reduceEqDiff, Nat.reduceLeDiff, true_and, file_all, blk_all, file_get, rfile_get, rblk_get, List.length_map, file_len, blk_drop6, h9, h12]
        refine sC.of en24 ((great_calls f hf).on _).here (by rfl) ?_
        simp only [go_sem, Nat.reduceAdd, Nat.reduceEqDiff, Nat.reduceLeDiff, true_and, file_all, blk_all, file_get, rfile_get, rblk_get, List.length_map, file_len, blk_drop6, h9, h12]
        refine sC.of en24 ((great_calls o ho).on _).here (by rfl) ?_
        simp only [go_sem, Nat.reduceAdd, Nat.reduceEqDiff, Nat.reduceLeDiff, true_and, file_all, blk_all, file_get, rfile_get, rblk_get, List.length_map, file_len, blk_drop6, h9, h12]
        try simp [upd_at, h9, h12, file_all, blk_all, file_get, rfile_get, rblk_get, List.length_map, file_len, blk_drop6]
      · skip
        simp only [go_sem, Nat.reduceAdd, Nat.reduceEqDiff, Nat.reduceLeDiff, true_and, file_all, blk_all, file_get, rfile_get, rblk_get, List.length_map, file_len, blk_drop6, h9, h12]
        refine sC.of en24 ((great_calls f hf).on _).here (by rfl) ?_
        simp only [go_sem, Nat.reduceAdd, Nat.reduceEqDiff, Nat.reduceLeDiff, true_and, file_all, blk_all, file_get, rfile_get, rblk_get, List.length_map, file_len, blk_drop6, h9, h12]
        refine sC.of en24 ((great_calls o ho).on _).here (by rfl) ?_
        simp only [go_sem, Nat.reduceAdd, Nat.reduceEqDiff, Nat.reduceLeDiff, true_and, file_all, blk_all, file_get, rfile_get, rblk_get, List.length_map, file_len, blk_drop6, h9, h12]
        try simp [upd_at, h9, h12, file_all, blk_all, file_get, rfile_get, rblk_get, List.length_map, file_len, blk_drop6]
    · skip
      simp only [go_sem, Nat.reduceAdd, Nat.reduceEqDiff, Nat.reduceLeDiff, true_and, file_all, blk_all, file_get, rfile_get, rblk_get, List.length_map, file_len, blk_drop6, h9]
      refine sC.of en24 ((great_calls f hf).on _).here (by rfl) ?_
      simp only [go_sem, Nat.reduceAdd, Nat.reduceEqDiff, Nat.reduceLeDiff, true_and, file_all, blk_all, file_get, rfile_get, rblk_get, List.length_map, file_len, blk_drop6, h9]
      try simp [upd_at, h9, file_all, blk_all, file_get, rfile_get, rblk_get, List.length_map, file_len, blk_drop6]
  conv => enter [4]; simp only [List.set_cons_zero, List.set_cons_succ]
  refine AW.cond rfl (fun hc19 => ?_) (fun hc19 => ?_)
  · skip
    refine AW.regl false [6] (by rfl) fun K4 hK4 => ?_ -- region 2
    simp only [go_sem, Nat.reduceAdd, Nat.reduceEqDiff, Nat.reduceLeDiff, true_and, file_all, blk_all, file_get, rfile_get, rblk_get, List.length_map, file_len]
    refine hK4 _ _ ?_; try clear hK4 K4
    conv => enter [4]; simp only [setL_cons, setL_nil, List.set_cons_zero, List.set_cons_succ]
    refine AW.ret ⟨.inr rfl, _, rfl, by simp, ?_⟩ -- return 1
    exact .keep rfl
  · skip
    have h0 : (f.great = false ∧ o.great = false) ∧ ¬ (b.src.length : Int) > 40 := by simpa using hc19
    have hfs := small_of h0.1.1
    have hos := small_of h0.1.2
    have hbs : b.src.length ≤ 40 := by omega
    obtain ⟨k40, hk40⟩ : ∃ k : Bool, k = decide (f.own.key = f.own.key) := ⟨_, rfl⟩
    have hS40 : APure prog GK 27 [f.own.enc, f.own.enc] (.val (.bool k40)) := by rw [hk40]; exact same_calls f.own f.own (own_ok hf)
    refine AW.skip ?_
    refine hK2 _ _ ?_; try clear hK2 K2
    refine AW.regl false [7] (by rfl) fun K5 hK5 => ?_ -- region 3
    simp only [go_sem, Nat.reduceAdd, Nat.reduceEqDiff, Nat.reduceLeDiff, true_and, file_all, blk_all, file_get, rfile_get, rblk_get, List.length_map, file_len]
    refine sC.of en25 ((own_calls f hfs).on _).here (by rfl) ?_
    simp only [go_sem, Nat.reduceAdd, Nat.reduceEqDiff, Nat.reduceLeDiff, true_and, file_all, blk_all, file_get, rfile_get, rblk_get, List.length_map, file_len]
    refine hK5 _ _ ?_; try clear hK5 K5
    conv => enter [4]; simp only [setL_cons, setL_nil, List.set_cons_zero, List.set_cons_succ, upd_none, upd_at]
    refine AW.regtdf mixed false 6 (.val (.bool ((((f.own.right == f.rright && decide (f.own.key = o.own.key) == decide (f.key = o.key)) && k40) && f.own.results b.own == f.results b) && true))) (by kernel_rfl) (by rfl) ?_ ?_ -- region 4
    · skip
      cases h26 : (f.own.right == f.rright)
      · skip
        simp only [go_sem, Nat.reduceAdd, Nat.reduceEqDiff, Nat.reduceLeDiff, true_and, file_all, blk_all, file_get, rfile_get, rblk_get, List.length_map, file_len, bin_beql tyBool4, h26]
        refine qC.of en9 ((right_calls f.own (own_ok hf)).on _).here (by rfl) ?_
        simp only [go_sem, Nat.reduceAdd, Nat.reduceEqDiff, Nat.reduceLeDiff, true_and, file_all, blk_all, file_get, rfile_get, rblk_get, List.length_map, file_len, bin_beql tyBool4, h26]
        refine qC.of en26 ((rright_calls f hfs).on _).here (by rfl) ?_
        simp only [go_sem, Nat.reduceAdd, Nat.reduceEqDiff, Nat.reduceLeDiff, true_and, file_all, blk_all, file_get, rfile_get, rblk_get, List.length_map, file_len, bin_beql tyBool4, h26]
        try simp [upd_at, h26, file_all, blk_all, file_get, rfile_get, rblk_get, List.length_map, file_len, bin_beql tyBool4]
      · skip
        cases h35 : (decide (f.own.key = o.own.key) == decide (f.key = o.key))
        · skip
          simp only [go_sem, Nat.reduceAdd, Nat.reduceEqDiff, Nat.reduceLeDiff, true_and, file_all, blk_all, file_get, rfile_get, rblk_get, List.length_map, file_len, bin_beql tyBool4, h26, h35]
          refine qC.of en9 ((right_calls f.own (own_ok hf)).on _).here (by rfl) ?_
          simp only [go_sem, Nat.reduceAdd, Nat.reduceEqDiff, Nat.reduceLeDiff, true_and, file_all, blk_all, file_get, rfile_get, rblk_get, List.length_map, file_len, bin_beql tyBool4, h26, h35]
          refine qC.of en26 ((rright_calls f hfs).on _).here (by rfl) ?_
          simp only [go_sem, Nat.reduceAdd, Nat.reduceEqDiff, Nat.reduceLeDiff, true_and, file_all, blk_all, file_get, rfile_get, rblk_get, List.length_map, file_len, bin_beql tyBool4, h26, h35]
          refine qC.of en25 ((own_calls o hos).on _).here (by rfl) ?_
          simp only [go_sem, Nat.reduceAdd, Nat.reduceEqDiff, Nat.reduceLeDiff, true_and, file_all, blk_all, file_get, rfile_get, rblk_get, List.length_map, file_len, bin_beql tyBool4, h26, h35]
          refine qC.of en27 ((same_calls f.own o.own (own_ok hf)).on _).here (by rfl) ?_
          simp only [go_sem, Nat.reduceAdd, Nat.reduceEqDiff, Nat.reduceLeDiff, true_and, file_all, blk_all, file_get, rfile_get, rblk_get, List.length_map, file_len, bin_beql tyBool4, h26, h35]
          refine qC.of en28 ((rsame_calls f o hfs).on _).here (by rfl) ?_
          simp only [go_sem, Nat.reduceAdd, Nat.reduceEqDiff, Nat.reduceLeDiff, true_and, file_all, blk_all, file_get, rfile_get, rblk_get, List.length_map, file_len, bin_beql tyBool4, h26, h35]
          try simp [upd_at, h26, h35, file_all, blk_all, file_get, rfile_get, rblk_get, List.length_map, file_len, bin_beql tyBool4]
        · skip
          cases h40 : (k40)
          · skip
            simp only [go_sem, Nat.reduceAdd, Nat.reduceEqDiff, Nat.reduceLeDiff, true_and, file_all, blk_all, file_get, rfile_get, rblk_get, List.length_map, file_len, bin_beql tyBool4, h26, h35, h40]
            refine qC.of en9 ((right_calls f.own (own_ok hf)).on _).here (by rfl) ?_
            simp only [go_sem, Nat.reduceAdd, Nat.reduceEqDiff, Nat.reduceLeDiff, true_and, file_all, blk_all, file_get, rfile_get, rblk_get, List.length_map, file_len, bin_beql tyBool4, h26, h35, h40]
            refine qC.of en26 ((rright_calls f hfs).on _).here (by rfl) ?_
            simp only [go_sem, Nat.reduceAdd, Nat.reduceEqDiff, Nat.reduceLeDiff, true_and, file_all, blk_all, file_get, rfile_get, rblk_get, List.length_map, file_len, bin_beql tyBool4, h26, h35, h40]
            refine qC.of en25 ((own_calls o hos).on _).here (by rfl) ?_
            simp only [go_sem, Nat.reduceAdd, Nat.reduceEqDiff, Nat.reduceLeDiff, true_and, file_all, blk_all, file_get, rfile_get, rblk_get, List.length_map, file_len, bin_beql tyBool4, h26, h35, h40]
            refine qC.of en27 ((same_calls f.own o.own (own_ok hf)).on _).here (by rfl) ?_
            simp only [go_sem, Nat.reduceAdd, Nat.reduceEqDiff, Nat.reduceLeDiff, true_and, file_all, blk_all, file_get, rfile_get, rblk_get, List.length_map, file_len, bin_beql tyBool4, h26, h35, h40]
            refine qC.of en28 ((rsame_calls f o hfs).on _).here (by rfl) ?_
            simp only [go_sem, Nat.reduceAdd, Nat.reduceEqDiff, Nat.reduceLeDiff, true_and, file_all, blk_all, file_get, rfile_get, rblk_get, List.length_map, file_len, bin_beql tyBool4, h26, h35, h40]
            refine qC.of en27 (hS40.on _).here (by rfl) ?_
            simp only [go_sem, Nat.reduceAdd, Nat.reduceEqDiff, Nat.reduceLeDiff, true_and, file_all, blk_all, file_get, rfile_get, rblk_get, List.length_map, file_len, bin_beql tyBool4, h26, h35, h40]
            try simp [upd_at, h26, h35, h40, file_all, blk_all, file_get, rfile_get, rblk_get, List.length_map, file_len, bin_beql tyBool4]
          · skip
            cases h50 : (f.own.results b.own == f.results b)
            · skip
              simp only [go_sem, Nat.reduceAdd, Nat.reduceEqDiff, Nat.reduceLeDiff, true_and, file_all, blk_all, file_get, rfile_get, rblk_get, List.length_map, file_len, bin_beql tyBool4, h26, h35, h40, h50]
              refine qC.of en9 ((right_calls f.own (own_ok hf)).on _).here (by rfl) ?_
              simp only [go_sem, Nat.reduceAdd, Nat.reduceEqDiff, Nat.reduceLeDiff, true_and, file_all, blk_all, file_get, rfile_get, rblk_get, List.length_map, file_len, bin_beql tyBool4, h26, h35, h40, h50]
              refine qC.of en26 ((rright_calls f hfs).on _).here (by rfl) ?_
              simp only [go_sem, Nat.reduceAdd, Nat.reduceEqDiff, Nat.reduceLeDiff, true_and, file_all, blk_all, file_get, rfile_get, rblk_get, List.length_map, file_len, bin_beql tyBool4, h26, h35, h40, h50]
              refine qC.of en25 ((own_calls o hos).on _).here (by rfl) ?_
              simp only [go_sem, Nat.reduceAdd, Nat.reduceEqDiff, Nat.reduceLeDiff, true_and, file_all, blk_all, file_get, rfile_get, rblk_get, List.length_map, file_len, bin_beql tyBool4, h26, h35, h40, h50]
              refine qC.of en27 ((same_calls f.own o.own (own_ok hf)).on _).here (by rfl) ?_
              simp only [go_sem, Nat.reduceAdd, Nat.reduceEqDiff, Nat.reduceLeDiff, true_and, file_all, blk_all, file_get, rfile_get, rblk_get, List.length_map, file_len, bin_beql tyBool4, h26, h35, h40, h50]
              refine qC.of en28 ((rsame_calls f o hfs).on _).here (by rfl) ?_
              simp only [go_sem, Nat.reduceAdd, Nat.reduceEqDiff, Nat.reduceLeDiff, true_and, file_all, blk_all, file_get, rfile_get, rblk_get, List.length_map, file_len, bin_beql tyBool4, h26, h35, h40, h50]
              refine qC.of en27 (hS40.on _).here (by rfl) ?_
              simp only [go_sem, Nat.reduceAdd, Nat.reduceEqDiff, Nat.reduceLeDiff, true_and, file_all, blk_all, file_get, rfile_get, rblk_get, List.length_map, file_len, bin_beql tyBool4, h26, h35, h40, h50]
              refine qC.of en30 ((oblock_calls b hbs).on _).here (by rfl) ?_
              simp only [go_sem, Nat.reduceAdd, Nat.reduceEqDiff, Nat.reduceLeDiff, true_and, file_all, blk_all, file_get, rfile_get, rblk_get, List.length_map, file_len, bin_beql tyBool4, h26, h35, h40, h50]
              refine qC.of en29 ((results_calls f.own b.own).on _).here (by rfl) ?_
              simp only [go_sem, Nat.reduceAdd, Nat.reduceEqDiff, Nat.reduceLeDiff, true_and, file_all, blk_all, file_get, rfile_get, rblk_get, List.length_map, file_len, bin_beql tyBool4, h26, h35, h40, h50]
              refine qC.of en31 ((rresults_calls f b).on _).here (by rfl) ?_
              simp only [go_sem, Nat.reduceAdd, Nat.reduceEqDiff, Nat.reduceLeDiff, true_and, file_all, blk_all, file_get, rfile_get, rblk_get, List.length_map, file_len, bin_beql tyBool4, h26, h35, h40, h50]
              try simp [upd_at, h26, h35, h40, h50, file_all, blk_all, file_get, rfile_get, rblk_get, List.length_map, file_len, bin_beql tyBool4]
            · skip
              simp only [go_sem, Nat.reduceAdd, Nat.reduceEqDiff, Nat.reduceLeDiff, true_and, file_all, blk_all, file_get, rfile_get, rblk_get, List.length_map, file_len, bin_beql tyBool4, h26, h35, h40, h50]
              refine qC.of en9 ((right_calls f.own (own_ok hf)).on _).here (by rfl) ?_
              simp only [go_sem, Nat.reduceAdd, Nat.reduceEqDiff, Nat.reduceLeDiff, true_and, file_all, blk_all, file_get, rfile_get, rblk_get, List.length_map, file_len, bin_beql tyBool4, h26, h35, h40, h50]
              refine qC.of en26 ((rright_calls f hfs).on _).here (by rfl) ?_
              simp only [go_sem, Nat.reduceAdd, Nat.reduceEqDiff, Nat.reduceLeDiff, true_and, file_all, blk_all, file_get, rfile_get, rblk_get, List.length_map, file_len, bin_beql tyBool4, h26, h35, h40, h50]
              refine qC.of en25 ((own_calls o hos).on _).here (by rfl) ?_
              simp only [go_sem, Nat.reduceAdd, Nat.reduceEqDiff, Nat.reduceLeDiff, true_and, file_all, blk_all, file_get, rfile_get, rblk_get, List.length_map, file_len, bin_beql tyBool4, h26, h35, h40, h50]
              refine qC.of en27 ((same_calls f.own o.own (own_ok hf)).on _).here (by rfl) ?_
              simp only [go_sem, Nat.reduceAdd, Nat.reduceEqDiff, Nat.reduceLeDiff, true_and, file_all, blk_all, file_get, rfile_get, rblk_get, List.length_map, file_len, bin_beql tyBool4, h26, h35, h40, h50]
              refine qC.of en28 ((rsame_calls f o hfs).on _).here (by rfl) ?_
              simp only [go_sem, Nat.reduceAdd, Nat.reduceEqDiff, Nat.reduceLeDiff, true_and, file_all, blk_all, file_get, rfile_get, rblk_get, List.length_map, file_len, bin_beql tyBool4, h26, h35, h40, h50]
              refine qC.of en27 (hS40.on _).here (by rfl) ?_
              simp only [go_sem, Nat.reduceAdd, Nat.reduceEqDiff, Nat.reduceLeDiff, true_and, file_all, blk_all, file_get, rfile_get, rblk_get, List.length_map, file_len, bin_beql tyBool4, h26, h35, h40, h50]
              refine qC.of en30 ((oblock_calls b hbs).on _).here (by rfl) ?_
              simp only [go_sem, Nat.reduceAdd, Nat.reduceEqDiff, Nat.reduceLeDiff, true_and, file_all, blk_all, file_get, rfile_get, rblk_get, List.length_map, file_len, bin_beql tyBool4, h26, h35, h40, h50]
              refine qC.of en29 ((results_calls f.own b.own).on _).here (by rfl) ?_
              simp only [go_sem, Nat.reduceAdd, Nat.reduceEqDiff, Nat.reduceLeDiff, true_and, file_all, blk_all, file_get, rfile_get, rblk_get, List.length_map, file_len, bin_beql tyBool4, h26, h35, h40, h50]
              refine qC.of en31 ((rresults_calls f b).on _).here (by rfl) ?_
              simp only [go_sem, Nat.reduceAdd, Nat.reduceEqDiff, Nat.reduceLeDiff, true_and, file_all, blk_all, file_get, rfile_get, rblk_get, List.length_map, file_len, bin_beql tyBool4, h26, h35, h40, h50]
              refine qC.of en10 (awake10_calls.on _).here (by rfl) ?_
              simp only [go_sem, Nat.reduceAdd, Nat.reduceEqDiff, Nat.reduceLeDiff, true_and, file_all, blk_all, file_get, rfile_get, rblk_get, List.length_map, file_len, bin_beql tyBool4, h26, h35, h40, h50]
              try simp [upd_at, h26, h35, h40, h50, file_all, blk_all, file_get, rfile_get, rblk_get, List.length_map, file_len, bin_beql tyBool4]
    conv => enter [4]; simp only [List.set_cons_zero, List.set_cons_succ]
    refine AW.ret ⟨.inr rfl, _, rfl, by simp, ?_⟩ -- return 2
    refine frzB ?_
    simp [hk40, own_right, own_key, own_results, rright_eq f hfs hn]
end Go.Proofs.Tryd
