import Derived.Test.YteekpkbmkibacaaDoorDiagP
import Derived.Test.YteekpkbmkibacaaDoorEvFrz
/-! The law DiagNames. -/
namespace Go.Proofs.Tryd
set_option linter.unusedSimpArgs false
set_option linter.unusedVariables false
open Go Go.Proofs.Ev
theorem mk1_24 (σ : Sto) (k k1 : IntKind) : aMakeSlice prog σ 24 (.val (.int k 1)) (.val (.int k1 1)) = some (.osl σ.length 0 1 2, σ ++ [.cells [.val (.string ⟨#[]⟩), .val (.int .i64 0)]]) := by rw [mk24]; rfl
theorem row2_70 (σ : Sto) (u v : AV) (h1 : u.cells.length = 2) (h2 : u.cells.all AV.one = true) (h3 : v.cells.length = 2) (h4 : v.cells.all AV.one = true) : aRow prog false σ 70 2 [(0, u), (1, v)] = some (.sl 2 [u, v], σ) := by
  simp only [aRow, Bool.false_eq_true, if_false]
  rw [if_neg (by decide), row70 (by decide) (by decide) rfl (by intro p hp; simp only [List.mem_cons, List.not_mem_nil, or_false] at hp; rcases hp with rfl | rfl; exact ⟨h1, h2⟩; exact ⟨h3, h4⟩)]
  rfl
def awBlk : Blk := ⟨3, 11, 0, 0, 0, 0, false, [⟨-1, 0⟩, ⟨-1, 0⟩]⟩
def awDgm : Dgm := ⟨⟨#[]⟩, false, [⟨⟨#[]⟩, 0⟩], true, [], false, [awBlk]⟩
def awFile : FileM := ⟨false, [awDgm]⟩
theorem awOk : awFile.ok := by
  refine ⟨by decide, fun d hd => ?_⟩
  simp only [awFile, List.mem_singleton] at hd
  subst hd
  refine ⟨by decide, ⟨by decide, fun p hp => ?_⟩, ⟨by decide, fun o ho => ?_⟩, by decide, fun b hb => ?_⟩
  · simp only [awDgm, List.mem_singleton] at hp
    subst hp
    decide
  · simp only [awDgm, List.not_mem_nil] at ho
  · simp only [awDgm, List.mem_singleton] at hb
    subst hb
    show (2 : Nat) ≤ maxLen
    decide
theorem at0_4 (a : AV) (k : IntKind) : aAt 4 (.sl 4 [a]) (.val (.int k 0)) = some (.er a.cells) := rfl
theorem at0_7 (a : AV) (k : IntKind) : aAt 7 (.sl 7 [a]) (.val (.int k 0)) = some (.er a.cells) := rfl
theorem ne1 (n : Nat) : (n + 1 = n) = False := by simp
theorem ne2 (n : Nat) : (n + 2 = n) = False := by simp
theorem ne3 (n : Nat) : (n = n + 1) = False := by simp
theorem ne4 (n : Nat) : (n = n + 2) = False := by simp
theorem sub_rep (o len sz j : Nat) (es : List AV) : subL o len sz es (List.replicate j (byteAV 0)) = List.replicate j (byteAV 0) := by
  rw [subL_map, List.map_replicate]
  rfl
def fm (X Y Z : ByteArray) : FileM := ⟨false, [⟨Z, false, [⟨X, 0⟩], false, [⟨⟨Y, 0⟩, ⟨-1, 0⟩⟩], true, []⟩]⟩
theorem fmOk {X Y Z : ByteArray} (hX : X.size ≤ 65600) (hY : Y.size ≤ 65600) (hZ : Z.size ≤ 65600) : (fm X Y Z).ok := by
  have h1 : maxLen = 9223372036854775807 := by decide
  refine ⟨by simp only [fm, List.length_singleton, h1]; omega, fun d hd => ?_⟩
  simp only [fm, List.mem_singleton] at hd
  subst hd
  refine ⟨by simp only [h1]; omega, ⟨by simp only [h1, List.length_singleton]; omega, fun p hp => ?_⟩, ⟨by simp only [h1, List.length_singleton]; omega, fun o ho => ?_⟩, by simp only [h1, List.length_nil]; omega, fun b hb => by simp at hb⟩
  · simp only [List.mem_singleton] at hp
    subst hp
    simp only [h1]
    omega
  · simp only [List.mem_singleton] at ho
    subst ho
    simp only [h1]
    omega
theorem fm_right (X Y Z : ByteArray) : (fm X Y Z).right = ((decide ((Z.size : Int) ≤ 65535) && decide ((X.size : Int) ≤ 65535)) && decide ((Y.size : Int) ≤ 65535)) := by
  simp [fm, FileM.right, FileM.diagram, PortM.right, FileM.source]
def S0 (j : Nat) : ByteArray := ⟨(List.replicate j 0).toArray⟩
theorem S0_size (j : Nat) : (S0 j).size = j := by simp [S0, ByteArray.size]
theorem aZeros_one (v : AV) (j : Nat) : aZeros [v] j = List.replicate j v := by
  simp only [aZeros, List.length_singleton, Nat.mod_one, List.getD_cons_zero]
  exact List.map_const' ..  |>.trans (by simp)
theorem mk23j {j : Nat} (hj : j < 65600) (σ : Sto) (k k1 : IntKind) : aMakeSlice prog σ 23 (.val (.int k j)) (.val (.int k1 j)) = some (.osl σ.length 0 j 1, σ ++ [.cells (List.replicate j (byteAV 0))]) := by
  rw [mk23, if_pos ⟨by omega, by simp only [fits, Int.toNat_natCast, Bool.and_eq_true, decide_eq_true_eq]; omega⟩]
  simp only [Int.toNat_natCast, Nat.mul_one, aZeros_one]
  rfl
theorem conv23j (σ : Sto) (j : Nat) : aConv prog (σ ++ [.cells (List.replicate j (byteAV 0))]) 23 9 (.osl σ.length 0 j 1) = some (.val (.string (S0 j)), σ ++ [.cells (List.replicate j (byteAV 0))]) :=
  aConv_bytes (bs := List.replicate j 0) (by kernel_rfl) (by kernel_rfl) _ _ _ _ ((app_get0 σ _).trans rfl) (by simp) (by simp)
set_option maxRecDepth 100000 in
theorem awake10_calls : APure prog GK 10 [] (.val (.bool true)) := by
  refine APure.of func10 rfl fun σ => ?_
  simp only [ntmps10, List.length_cons, List.length_nil, Nat.reduceAdd, Nat.reduceSub, List.replicate_succ, List.replicate_zero, List.cons_append, List.nil_append]
  refine AW.regl false [0] (by rfl) fun K1 hK1 => ?_ -- region 0
  simp only [go_sem, Nat.reduceAdd, Nat.reduceEqDiff, Nat.reduceLeDiff, true_and, mk1_24, row2_70, at_sl]
  refine hK1 _ _ ?_; try clear hK1 K1
  conv => enter [4]; simp only [setL_cons, setL_nil, List.set_cons_zero, List.set_cons_succ]
  refine AW.regl false [1] (by rfl) fun K2 hK2 => ?_ -- region 1
  simp only [go_sem, Nat.reduceAdd, Nat.reduceEqDiff, Nat.reduceLeDiff, true_and, mk1_24, row2_70, at_sl]
  refine hK2 _ _ ?_; try clear hK2 K2
  conv => enter [4]; simp only [setL_cons, setL_nil, List.set_cons_zero, List.set_cons_succ]
  refine AW.freeze σ.length σ.length 1 2 [.agg [str ⟨#[]⟩, i64 0]] ((app_get0 σ _).trans rfl) rfl rfl (by simp [AV.cells]) ?_
  simp only [subL, AV.sub, app_set0, List.set_cons_zero, subFrom_app, List.map_cons, List.map_nil, AO.sub, and_self, if_true]
  refine AW.regtdf mixed false 0 (.val (.bool (awFile.right && awFile.results awBlk == 1))) (by kernel_rfl) (by rfl) ?_ ?_ -- region 2
  · skip
    cases h12 : (awFile.right)
    · skip
      simp only [go_sem, Nat.reduceAdd, Nat.reduceEqDiff, Nat.reduceLeDiff, true_and, mk1_24, row2_70, at_sl, at0_4, at0_7, h12]
      refine qC.of en9 ((right_calls awFile awOk).on _).here (by rfl) ?_
      simp only [go_sem, Nat.reduceAdd, Nat.reduceEqDiff, Nat.reduceLeDiff, true_and, mk1_24, row2_70, at_sl, at0_4, at0_7, h12]
      try simp [upd_at, h12, mk1_24, row2_70, at_sl, at0_4, at0_7]
    · skip
      simp only [go_sem, Nat.reduceAdd, Nat.reduceEqDiff, Nat.reduceLeDiff, true_and, mk1_24, row2_70, at_sl, at0_4, at0_7, h12]
      refine qC.of en9 ((right_calls awFile awOk).on _).here (by rfl) ?_
      simp only [go_sem, Nat.reduceAdd, Nat.reduceEqDiff, Nat.reduceLeDiff, true_and, mk1_24, row2_70, at_sl, at0_4, at0_7, h12]
      refine qC.of en29 ((results_calls awFile awBlk).on _).here (by rfl) ?_
      simp only [go_sem, Nat.reduceAdd, Nat.reduceEqDiff, Nat.reduceLeDiff, true_and, mk1_24, row2_70, at_sl, at0_4, at0_7, h12]
      try simp [upd_at, h12, mk1_24, row2_70, at_sl, at0_4, at0_7]
  conv => enter [4]; simp only [List.set_cons_zero, List.set_cons_succ]
  refine AW.ret ⟨.inr rfl, _, rfl, by simp, ?_⟩ -- return 1
  refine frzB ?_
  kernel_rfl

set_option maxRecDepth 100000 in
theorem diagNames_calls (n w : Int) (hn : 0 ≤ n) (hwn : 0 ≤ w) : APure prog GK 3 [.val (.int .u32 n), .val (.int .u8 w)] (.val (.bool true)) := by
  refine APure.of func3 rfl fun σ => ?_
  simp only [ntmps3, List.length_cons, List.length_nil, Nat.reduceAdd, Nat.reduceSub, List.replicate_succ, List.replicate_zero, List.cons_append, List.nil_append]
  obtain ⟨j, hj⟩ := Int.eq_ofNat_of_zero_le (Int.tmod_nonneg 65600 hn)
  have hlt : j < 65600 := by have := Int.tmod_lt_of_pos n (show (0:Int) < 65600 by decide); omega
  refine AW.regl false [4] (by rfl) fun K1 hK1 => ?_ -- region 0
  simp only [go_sem, Nat.reduceAdd, Nat.reduceEqDiff, Nat.reduceLeDiff, true_and, at_osl0, mk1_24, Int.toNat_zero, Nat.zero_mul, Nat.add_zero]
  refine hK1 _ _ ?_; try clear hK1 K1
  conv => enter [4]; simp only [setL_cons, setL_nil, List.set_cons_zero, List.set_cons_succ]
  refine AW.regl false [5] (by rfl) fun K2 hK2 => ?_ -- region 1
  simp only [go_sem, Nat.reduceAdd, Nat.reduceEqDiff, Nat.reduceLeDiff, true_and, at_osl0, mk1_24, Int.toNat_zero, Nat.zero_mul, Nat.add_zero, bin_rem (show (65600 : Int) ≠ 0 by decide), hj, mk23j hlt, conv23j]
  refine hK2 _ _ ?_; try clear hK2 K2
  conv => enter [4]; simp only [setL_cons, setL_nil, List.set_cons_zero, List.set_cons_succ]
  refine AW.regl true [6] (by rfl) fun K3 hK3 => ?_ -- region 2
  simp only [go_sem, Nat.reduceAdd, Nat.reduceEqDiff, Nat.reduceLeDiff, true_and, at_osl0, mk1_24, Int.toNat_zero, Nat.zero_mul, Nat.add_zero]
  refine hK3 _ _ ?_; try clear hK3 K3
  conv => enter [4]; simp only [setL_cons, setL_nil, List.set_cons_zero, List.set_cons_succ]
  refine AW.regl false [7] (by rfl) fun K4 hK4 => ?_ -- region 3
  simp only [go_sem, Nat.reduceAdd, Nat.reduceEqDiff, Nat.reduceLeDiff, true_and, at_osl0, mk1_24, Int.toNat_zero, Nat.zero_mul, Nat.add_zero]
  refine hK4 _ _ ?_; try clear hK4 K4
  conv => enter [4]; simp only [setL_cons, setL_nil, List.set_cons_zero, List.set_cons_succ]
  refine AW.seq_k fun K5 hK5 => ?_
  refine AW.regl false [23] (by rfl) fun K6 hK6 => ?_ -- region 4
  simp only [go_sem, Nat.reduceAdd, Nat.reduceEqDiff, Nat.reduceLeDiff, true_and, at_osl0, mk1_24, Int.toNat_zero, Nat.zero_mul, Nat.add_zero, bin_rem (show (3 : Int) ≠ 0 by decide)]
  refine hK6 _ _ ?_; try clear hK6 K6
  conv => enter [4]; simp only [setL_cons, setL_nil, List.set_cons_zero, List.set_cons_succ]
  refine AW.block ?_
  refine AW.regl false [24] (by rfl) fun K7 hK7 => ?_ -- region 5
  simp only [go_sem, Nat.reduceAdd, Nat.reduceEqDiff, Nat.reduceLeDiff, true_and, at_osl0, mk1_24, Int.toNat_zero, Nat.zero_mul, Nat.add_zero]
  refine hK7 _ _ ?_; try clear hK7 K7
  conv => enter [4]; simp only [setL_cons, setL_nil, List.set_cons_zero, List.set_cons_succ]
  refine AW.cond rfl (fun hc24 => ?_) (fun hc24 => ?_)
  · skip
    refine AW.lastl false [] (by rfl) fun K hK => ?_ -- region 6
    simp only [go_sem, Nat.reduceAdd, Nat.reduceEqDiff, Nat.reduceLeDiff, true_and, at_osl0, mk1_24, Int.toNat_zero, Nat.zero_mul, Nat.add_zero]
    refine hK _ _ fun env' hw => ?_
    simp only [setL_cons, setL_nil, List.set_cons_zero, List.set_cons_succ] at hw
    refine hK5 _ _ (AW.weaken hw ?_); clear hw; try clear hK5 K5
    refine AW.freeze σ.length (σ.length + 1) 1 2 [.agg [str ⟨#[]⟩, i64 0]] ((app_get σ _ 1).trans rfl) rfl rfl (by simp [AV.cells]) ?_
    simp only [subL, AV.sub, sub_rep, app_set, List.set_cons_zero, List.set_cons_succ, subFrom_app, List.map_cons, List.map_nil, AO.sub, and_self, if_true, and_false, false_and, if_false, Nat.add_right_cancel_iff, Nat.reduceEqDiff, ne1, ne2, ne3, ne4, upd_at, upd_none]
    refine AW.freeze σ.length (σ.length + 2) 1 4 [.agg [str ⟨#[]⟩, i64 0, i64 (-1), i64 0]] ((app_get σ _ 2).trans rfl) rfl rfl (by simp [AV.cells]) ?_
    simp only [subL, AV.sub, sub_rep, app_set, List.set_cons_zero, List.set_cons_succ, subFrom_app, List.map_cons, List.map_nil, AO.sub, and_self, if_true, and_false, false_and, if_false, Nat.add_right_cancel_iff, Nat.reduceEqDiff, ne1, ne2, ne3, ne4, upd_at, upd_none]
    refine AW.freeze σ.length (σ.length + 3) 1 4 [.agg [str (S0 j), .sl 2 [.agg [str ⟨#[]⟩, i64 0]], .sl 4 [.agg [str ⟨#[]⟩, i64 0, i64 (-1), i64 0]], .nilsl]] ((app_get σ _ 3).trans rfl) rfl rfl (by simp [AV.cells]) ?_
    simp only [subL, AV.sub, sub_rep, app_set, List.set_cons_zero, List.set_cons_succ, subFrom_app, List.map_cons, List.map_nil, AO.sub, and_self, if_true, and_false, false_and, if_false, Nat.add_right_cancel_iff, Nat.reduceEqDiff, ne1, ne2, ne3, ne4, upd_at, upd_none]
    have hR := right_calls (fm ⟨#[]⟩ ⟨#[]⟩ (S0 j)) (fmOk (by first | rw [S0_size]; omega | exact Nat.zero_le _) (by first | rw [S0_size]; omega | exact Nat.zero_le _) (by first | rw [S0_size]; omega | exact Nat.zero_le _))
    refine AW.regtf false 4 (.val (.bool (((fm ⟨#[]⟩ ⟨#[]⟩ (S0 j)).right == decide (((S0 j).size : Int) ≤ 65535)) && true))) (by rfl) ?_ ?_ -- region 11
    · skip
      cases h54 : (((fm ⟨#[]⟩ ⟨#[]⟩ (S0 j)).right == decide (((S0 j).size : Int) ≤ 65535)))
      · skip
        simp only [go_sem, Nat.reduceAdd, Nat.reduceEqDiff, Nat.reduceLeDiff, true_and, at_osl0, mk1_24, Int.toNat_zero, Nat.zero_mul, Nat.add_zero, bin_beql tyBool4, h54]
        refine sC.of en9 (hR.on _).here (by rfl) ?_
        simp only [go_sem, Nat.reduceAdd, Nat.reduceEqDiff, Nat.reduceLeDiff, true_and, at_osl0, mk1_24, Int.toNat_zero, Nat.zero_mul, Nat.add_zero, bin_beql tyBool4, h54]
        try simp [upd_at, h54, at_osl0, mk1_24, Int.toNat_zero, Nat.zero_mul, Nat.add_zero, bin_beql tyBool4]
      · skip
        simp only [go_sem, Nat.reduceAdd, Nat.reduceEqDiff, Nat.reduceLeDiff, true_and, at_osl0, mk1_24, Int.toNat_zero, Nat.zero_mul, Nat.add_zero, bin_beql tyBool4, h54]
        refine sC.of en9 (hR.on _).here (by rfl) ?_
        simp only [go_sem, Nat.reduceAdd, Nat.reduceEqDiff, Nat.reduceLeDiff, true_and, at_osl0, mk1_24, Int.toNat_zero, Nat.zero_mul, Nat.add_zero, bin_beql tyBool4, h54]
        refine sC.of en10 (awake10_calls.on _).here (by rfl) ?_
        simp only [go_sem, Nat.reduceAdd, Nat.reduceEqDiff, Nat.reduceLeDiff, true_and, at_osl0, mk1_24, Int.toNat_zero, Nat.zero_mul, Nat.add_zero, bin_beql tyBool4, h54]
        try simp [upd_at, h54, at_osl0, mk1_24, Int.toNat_zero, Nat.zero_mul, Nat.add_zero, bin_beql tyBool4]
    conv => enter [4]; simp only [List.set_cons_zero, List.set_cons_succ]
    refine AW.ret ⟨.inr rfl, _, rfl, by simp, ?_⟩ -- return 1
    refine frzB ?_
    have h0 : (((⟨#[]⟩ : ByteArray).size : Nat) : Int) ≤ 65535 := by decide
    rw [fm_right]
    simp only [h0, decide_true, Bool.and_true, Bool.true_and, beq_self_eq_true]
  · skip
    refine AW.regl false [30] (by rfl) fun K9 hK9 => ?_ -- region 7
    simp only [go_sem, Nat.reduceAdd, Nat.reduceEqDiff, Nat.reduceLeDiff, true_and, at_osl0, mk1_24, Int.toNat_zero, Nat.zero_mul, Nat.add_zero]
    refine hK9 _ _ ?_; try clear hK9 K9
    conv => enter [4]; simp only [setL_cons, setL_nil, List.set_cons_zero, List.set_cons_succ]
    refine AW.cond rfl (fun hc30 => ?_) (fun hc30 => ?_)
    · skip
      refine AW.lastl false [] (by rfl) fun K hK => ?_ -- region 8
      simp only [go_sem, Nat.reduceAdd, Nat.reduceEqDiff, Nat.reduceLeDiff, true_and, at_osl0, mk1_24, Int.toNat_zero, Nat.zero_mul, Nat.add_zero]
      refine hK _ _ fun env' hw => ?_
      simp only [setL_cons, setL_nil, List.set_cons_zero, List.set_cons_succ] at hw
      refine hK5 _ _ (AW.weaken hw ?_); clear hw; try clear hK5 K5
      refine AW.freeze σ.length (σ.length + 1) 1 2 [.agg [str (S0 j), i64 0]] ((app_get σ _ 1).trans rfl) rfl rfl (by simp [AV.cells]) ?_
      simp only [subL, AV.sub, sub_rep, app_set, List.set_cons_zero, List.set_cons_succ, subFrom_app, List.map_cons, List.map_nil, AO.sub, and_self, if_true, and_false, false_and, if_false, Nat.add_right_cancel_iff, Nat.reduceEqDiff, ne1, ne2, ne3, ne4, upd_at, upd_none]
      refine AW.freeze σ.length (σ.length + 2) 1 4 [.agg [str ⟨#[]⟩, i64 0, i64 (-1), i64 0]] ((app_get σ _ 2).trans rfl) rfl rfl (by simp [AV.cells]) ?_
      simp only [subL, AV.sub, sub_rep, app_set, List.set_cons_zero, List.set_cons_succ, subFrom_app, List.map_cons, List.map_nil, AO.sub, and_self, if_true, and_false, false_and, if_false, Nat.add_right_cancel_iff, Nat.reduceEqDiff, ne1, ne2, ne3, ne4, upd_at, upd_none]
      refine AW.freeze σ.length (σ.length + 3) 1 4 [.agg [str ⟨#[]⟩, .sl 2 [.agg [str (S0 j), i64 0]], .sl 4 [.agg [str ⟨#[]⟩, i64 0, i64 (-1), i64 0]], .nilsl]] ((app_get σ _ 3).trans rfl) rfl rfl (by simp [AV.cells]) ?_
      simp only [subL, AV.sub, sub_rep, app_set, List.set_cons_zero, List.set_cons_succ, subFrom_app, List.map_cons, List.map_nil, AO.sub, and_self, if_true, and_false, false_and, if_false, Nat.add_right_cancel_iff, Nat.reduceEqDiff, ne1, ne2, ne3, ne4, upd_at, upd_none]
      have hR := right_calls (fm (S0 j) ⟨#[]⟩ ⟨#[]⟩) (fmOk (by first | rw [S0_size]; omega | exact Nat.zero_le _) (by first | rw [S0_size]; omega | exact Nat.zero_le _) (by first | rw [S0_size]; omega | exact Nat.zero_le _))
      refine AW.regtf false 4 (.val (.bool (((fm (S0 j) ⟨#[]⟩ ⟨#[]⟩).right == decide (((S0 j).size : Int) ≤ 65535)) && true))) (by rfl) ?_ ?_ -- region 11
      · skip
        cases h54 : (((fm (S0 j) ⟨#[]⟩ ⟨#[]⟩).right == decide (((S0 j).size : Int) ≤ 65535)))
        · skip
          simp only [go_sem, Nat.reduceAdd, Nat.reduceEqDiff, Nat.reduceLeDiff, true_and, at_osl0, mk1_24, Int.toNat_zero, Nat.zero_mul, Nat.add_zero, bin_beql tyBool4, h54]
          refine sC.of en9 (hR.on _).here (by rfl) ?_
          simp only [go_sem, Nat.reduceAdd, Nat.reduceEqDiff, Nat.reduceLeDiff, true_and, at_osl0, mk1_24, Int.toNat_zero, Nat.zero_mul, Nat.add_zero, bin_beql tyBool4, h54]
          try simp [upd_at, h54, at_osl0, mk1_24, Int.toNat_zero, Nat.zero_mul, Nat.add_zero, bin_beql tyBool4]
        · skip
          simp only [go_sem, Nat.reduceAdd, Nat.reduceEqDiff, Nat.reduceLeDiff, true_and, at_osl0, mk1_24, Int.toNat_zero, Nat.zero_mul, Nat.add_zero, bin_beql tyBool4, h54]
          refine sC.of en9 (hR.on _).here (by rfl) ?_
          simp only [go_sem, Nat.reduceAdd, Nat.reduceEqDiff, Nat.reduceLeDiff, true_and, at_osl0, mk1_24, Int.toNat_zero, Nat.zero_mul, Nat.add_zero, bin_beql tyBool4, h54]
          refine sC.of en10 (awake10_calls.on _).here (by rfl) ?_
          simp only [go_sem, Nat.reduceAdd, Nat.reduceEqDiff, Nat.reduceLeDiff, true_and, at_osl0, mk1_24, Int.toNat_zero, Nat.zero_mul, Nat.add_zero, bin_beql tyBool4, h54]
          try simp [upd_at, h54, at_osl0, mk1_24, Int.toNat_zero, Nat.zero_mul, Nat.add_zero, bin_beql tyBool4]
      conv => enter [4]; simp only [List.set_cons_zero, List.set_cons_succ]
      refine AW.ret ⟨.inr rfl, _, rfl, by simp, ?_⟩ -- return 2
      refine frzB ?_
      have h0 : (((⟨#[]⟩ : ByteArray).size : Nat) : Int) ≤ 65535 := by decide
      rw [fm_right]
      simp only [h0, decide_true, Bool.and_true, Bool.true_and, beq_self_eq_true]
    · skip
      refine AW.regl false [39] (by rfl) fun K11 hK11 => ?_ -- region 9
      simp only [go_sem, Nat.reduceAdd, Nat.reduceEqDiff, Nat.reduceLeDiff, true_and, at_osl0, mk1_24, Int.toNat_zero, Nat.zero_mul, Nat.add_zero]
      refine hK11 _ _ ?_; try clear hK11 K11
      conv => enter [4]; simp only [setL_cons, setL_nil, List.set_cons_zero, List.set_cons_succ]
      refine AW.cond rfl (fun hc39 => ?_) (fun hc39 => ?_)
      · skip
        refine AW.lastl false [] (by rfl) fun K hK => ?_ -- region 10
        simp only [go_sem, Nat.reduceAdd, Nat.reduceEqDiff, Nat.reduceLeDiff, true_and, at_osl0, mk1_24, Int.toNat_zero, Nat.zero_mul, Nat.add_zero]
        refine hK _ _ fun env' hw => ?_
        simp only [setL_cons, setL_nil, List.set_cons_zero, List.set_cons_succ] at hw
        refine hK5 _ _ (AW.weaken hw ?_); clear hw; try clear hK5 K5
        refine AW.freeze σ.length (σ.length + 1) 1 2 [.agg [str ⟨#[]⟩, i64 0]] ((app_get σ _ 1).trans rfl) rfl rfl (by simp [AV.cells]) ?_
        simp only [subL, AV.sub, sub_rep, app_set, List.set_cons_zero, List.set_cons_succ, subFrom_app, List.map_cons, List.map_nil, AO.sub, and_self, if_true, and_false, false_and, if_false, Nat.add_right_cancel_iff, Nat.reduceEqDiff, ne1, ne2, ne3, ne4, upd_at, upd_none]
        refine AW.freeze σ.length (σ.length + 2) 1 4 [.agg [str (S0 j), i64 0, i64 (-1), i64 0]] ((app_get σ _ 2).trans rfl) rfl rfl (by simp [AV.cells]) ?_
        simp only [subL, AV.sub, sub_rep, app_set, List.set_cons_zero, List.set_cons_succ, subFrom_app, List.map_cons, List.map_nil, AO.sub, and_self, if_true, and_false, false_and, if_false, Nat.add_right_cancel_iff, Nat.reduceEqDiff, ne1, ne2, ne3, ne4, upd_at, upd_none]
        refine AW.freeze σ.length (σ.length + 3) 1 4 [.agg [str ⟨#[]⟩, .sl 2 [.agg [str ⟨#[]⟩, i64 0]], .sl 4 [.agg [str (S0 j), i64 0, i64 (-1), i64 0]], .nilsl]] ((app_get σ _ 3).trans rfl) rfl rfl (by simp [AV.cells]) ?_
        simp only [subL, AV.sub, sub_rep, app_set, List.set_cons_zero, List.set_cons_succ, subFrom_app, List.map_cons, List.map_nil, AO.sub, and_self, if_true, and_false, false_and, if_false, Nat.add_right_cancel_iff, Nat.reduceEqDiff, ne1, ne2, ne3, ne4, upd_at, upd_none]
        have hR := right_calls (fm ⟨#[]⟩ (S0 j) ⟨#[]⟩) (fmOk (by first | rw [S0_size]; omega | exact Nat.zero_le _) (by first | rw [S0_size]; omega | exact Nat.zero_le _) (by first | rw [S0_size]; omega | exact Nat.zero_le _))
        refine AW.regtf false 4 (.val (.bool (((fm ⟨#[]⟩ (S0 j) ⟨#[]⟩).right == decide (((S0 j).size : Int) ≤ 65535)) && true))) (by rfl) ?_ ?_ -- region 11
        · skip
          cases h54 : (((fm ⟨#[]⟩ (S0 j) ⟨#[]⟩).right == decide (((S0 j).size : Int) ≤ 65535)))
          · skip
            simp only [go_sem, Nat.reduceAdd, Nat.reduceEqDiff, Nat.reduceLeDiff, true_and, at_osl0, mk1_24, Int.toNat_zero, Nat.zero_mul, Nat.add_zero, bin_beql tyBool4, h54]
            refine sC.of en9 (hR.on _).here (by rfl) ?_
            simp only [go_sem, Nat.reduceAdd, Nat.reduceEqDiff, Nat.reduceLeDiff, true_and, at_osl0, mk1_24, Int.toNat_zero, Nat.zero_mul, Nat.add_zero, bin_beql tyBool4, h54]
            try simp [upd_at, h54, at_osl0, mk1_24, Int.toNat_zero, Nat.zero_mul, Nat.add_zero, bin_beql tyBool4]
          · skip
            simp only [go_sem, Nat.reduceAdd, Nat.reduceEqDiff, Nat.reduceLeDiff, true_and, at_osl0, mk1_24, Int.toNat_zero, Nat.zero_mul, Nat.add_zero, bin_beql tyBool4, h54]
            refine sC.of en9 (hR.on _).here (by rfl) ?_
            simp only [go_sem, Nat.reduceAdd, Nat.reduceEqDiff, Nat.reduceLeDiff, true_and, at_osl0, mk1_24, Int.toNat_zero, Nat.zero_mul, Nat.add_zero, bin_beql tyBool4, h54]
            refine sC.of en10 (awake10_calls.on _).here (by rfl) ?_
            simp only [go_sem, Nat.reduceAdd, Nat.reduceEqDiff, Nat.reduceLeDiff, true_and, at_osl0, mk1_24, Int.toNat_zero, Nat.zero_mul, Nat.add_zero, bin_beql tyBool4, h54]
            try simp [upd_at, h54, at_osl0, mk1_24, Int.toNat_zero, Nat.zero_mul, Nat.add_zero, bin_beql tyBool4]
        conv => enter [4]; simp only [List.set_cons_zero, List.set_cons_succ]
        refine AW.ret ⟨.inr rfl, _, rfl, by simp, ?_⟩ -- return 3
        refine frzB ?_
        have h0 : (((⟨#[]⟩ : ByteArray).size : Nat) : Int) ≤ 65535 := by decide
        rw [fm_right]
        simp only [h0, decide_true, Bool.and_true, Bool.true_and, beq_self_eq_true]
      · skip
        exfalso
        have k1 := Int.tmod_lt_of_pos w (show (0:Int) < 3 by decide)
        have k2 := Int.tmod_nonneg 3 hwn
        simp only [beq_eq_false_iff_ne, ne_eq] at hc24 hc30 hc39
        omega
end Go.Proofs.Tryd
