import Derived.Test.YtipakejbdpbedaaDoorPkLtB
/-! Lexing: what the walk through LexTells needs. -/
namespace Go.Proofs.Tryd
set_option linter.unusedSimpArgs false
set_option linter.unusedVariables false
open Go Go.Proofs.Ev
namespace Lx
variable {Γ : List (Nat × List AV)} {w : AV} {mx : Int} {te : TypeId}
theorem bT36 : prog.eqGuardType prog.depth 36 = false := by kernel_rfl
theorem eqD36 (k v a b : Int) (s : ByteArray) (k' v' a' b' : Int) (s' : ByteArray) : aEqD prog 6 36 (.agg [i64 k, str s, i64 v, i64 a, i64 b]) (.agg [i64 k', str s', i64 v', i64 a', i64 b']) = some ((k == k') && ((s == s') && ((v == v') && (((a == a') && ((b == b') && true)) && true)))) := by kernel_rfl
theorem ne36 (k v a b : Int) (s : ByteArray) : aBin prog .neq 36 (.agg [i64 k, str s, i64 v, i64 a, i64 b]) (.agg [i64 k, str s, i64 v, i64 a, i64 b]) = some (.val (.bool false)) := by
  have hs : (s == s) = true := by rw [ba_beq]; exact decide_eq_true rfl
  simp only [aBin, bT36, Bool.false_eq_true, if_false, eqD36, Option.map_some, hs, beq_self_eq_true, Bool.and_true, Bool.not_true]
theorem ne24s (a b : Int) : aBin prog .neq 24 (.agg [i64 a, i64 b]) (.agg [i64 a, i64 b]) = some (.val (.bool false)) := by
  rw [ne24]
  simp
theorem ne24e {a b c d : Int} (ha : a = c) (hb : b = d) : aBin prog .neq 24 (.agg [i64 a, i64 b]) (.agg [i64 c, i64 d]) = some (.val (.bool false)) := by
  rw [ha, hb, ne24s]
theorem rlexL (S : List UInt8) (hS : S.length ≤ 20000) {v : AV} (h : rlexV S = v) : APure prog Γ 6 [str (bs S)] v := h ▸ rlex_calls S hS
theorem lexL' (hΓ : A.Words (GL w mx te)) (s : List UInt8) (hs : s.length ≤ 20000) {v : AV} (h : lexV s = v) : APure prog (GL w mx te) 5 [str (bs s)] v := h ▸ lex_calls hΓ s hs
theorem fin_len : ∀ (f : Nat) (S : List UInt8) (p : Nat), p ≤ S.length → (lexF f S p).1.length ≤ S.length - p + 1
  | 0, _, _, _ => Nat.zero_le _
  | f + 1, S, p, hp => by
    have h1 := sk_drop hp
    unfold lexF
    split
    · exact Nat.zero_le _
    · split
      · show 1 ≤ _
        omega
      · split
        · rename_i h3
          have h4 := tk_pos h3
          have h5 := tk_le (S.drop (p + sk (S.drop p)))
          rw [List.length_drop] at h5
          have h6 := fin_len f S (p + sk (S.drop p) + (tk (S.drop (p + sk (S.drop p)))).2.1) (by omega)
          split
          · simp only [List.length_cons]
            omega
          · exact Nat.zero_le _
        · exact Nat.zero_le _
theorem lexM_len (S : List UInt8) : (lexM S).1.length ≤ S.length + 1 := by
  by_cases h : (lexM S).2.2 = 0
  · rw [lexM_T h]
    exact fin_len _ S 0 (Nat.zero_le _)
  · rw [lexM_err h]
    exact Nat.zero_le _
end Lx
end Go.Proofs.Tryd
/-! Lexing: function 3. -/
namespace Go.Proofs.Tryd
set_option linter.unusedSimpArgs false
set_option linter.unusedVariables false
open Go Go.Proofs.Ev
namespace Lx
variable {Γ : List (Nat × List AV)} {w : AV} {mx : Int} {te : TypeId}
set_option maxRecDepth 100000 in
set_option maxHeartbeats 1000000 in
theorem tells_calls (hΓ : A.Words (GL w mx te)) (s : List UInt8) (hs : s.length ≤ 9223372036854775807) : APure prog (GL w mx te) 3 [str (bs s)] (.val (.bool true)) := by
  refine APure.of func3 rfl fun σ => ?_
  simp only [ntmps3, List.length_cons, List.length_nil, Nat.reduceAdd, Nat.reduceSub, List.replicate_succ, List.replicate_zero, List.cons_append, List.nil_append]
  refine AW.regl false [2] (by rfl) fun K1 hK1 => ?_ -- region 0
  simp only [go_sem, Nat.reduceAdd, Nat.reduceEqDiff, Nat.reduceLeDiff, true_and, app_get, app_get0, app_set, app_set0, bs_size, len_row, List.length_map]
  refine hK1 _ _ ?_; try clear hK1 K1
  conv => enter [5]; simp only [setL_cons, setL_nil, List.set_cons_zero, List.set_cons_succ]
  refine AW.seq_k fun K2 hK2 => ?_
  refine AW.regl false [15] (by rfl) fun K3 hK3 => ?_ -- region 1
  simp only [go_sem, Nat.reduceAdd, Nat.reduceEqDiff, Nat.reduceLeDiff, true_and, app_get, app_get0, app_set, app_set0, bs_size, len_row, List.length_map]
  refine hK3 _ _ ?_; try clear hK3 K3
  conv => enter [5]; simp only [setL_cons, setL_nil, List.set_cons_zero, List.set_cons_succ]
  refine AW.cond rfl (fun hc15 => ?_) (fun hc15 => ?_)
  · skip
    refine AW.regl false [2] (by rfl) fun K4 hK4 => ?_ -- region 2
    simp only [go_sem, Nat.reduceAdd, Nat.reduceEqDiff, Nat.reduceLeDiff, true_and, app_get, app_get0, app_set, app_set0, bs_size, len_row, List.length_map]
    refine hK4 _ _ ?_; try clear hK4 K4
    conv => enter [5]; simp only [setL_cons, setL_nil, List.set_cons_zero, List.set_cons_succ]
    refine AW.ret ⟨.inr rfl, _, rfl, by simp, ?_⟩ -- return 1
    exact .keep rfl
  · skip
    have hsl : s.length ≤ 2000 := by have h := hc15; simp at h; omega
    obtain ⟨a, b, hV, hab0, habE⟩ := lexV_form s
    obtain ⟨L, hL⟩ : ∃ z, z = (lexM s).1 := ⟨_, rfl⟩
    obtain ⟨q, hq⟩ : ∃ z, z = (lexM s).2.1 := ⟨_, rfl⟩
    obtain ⟨E, hE⟩ : ∃ z, z = (lexM s).2.2 := ⟨_, rfl⟩
    have hR : rlexV s = .tup [rowAV 4 true (L.map (rtok s)), i64 ((q : Nat) : Int), i64 E] := by rw [hL, hq, hE]; rfl
    have hll := lexM_len s
    rw [← hL] at hV hll
    rw [← hE] at hV hab0 habE
    rw [← hq] at habE
    have hlm : L.length ≤ maxLen := by rw [maxLen_eq]; omega
    refine AW.skip ?_
    refine hK2 _ _ ?_; try clear hK2 K2
    refine AW.regl false [4, 3, 5] (by rfl) fun K5 hK5 => ?_ -- region 3
    simp only [go_sem, Nat.reduceAdd, Nat.reduceEqDiff, Nat.reduceLeDiff, true_and, app_get, app_get0, app_set, app_set0, bs_size, len_row, List.length_map, aExtract]
    refine sC.of en5 ((lexL' hΓ s (by omega) hV).on _).here (by rfl) ?_
    simp only [go_sem, Nat.reduceAdd, Nat.reduceEqDiff, Nat.reduceLeDiff, true_and, app_get, app_get0, app_set, app_set0, bs_size, len_row, List.length_map, aExtract]
    refine hK5 _ _ ?_; try clear hK5 K5
    conv => enter [5]; simp only [setL_cons, setL_nil, List.set_cons_zero, List.set_cons_succ]
    refine AW.regl false [6, 7, 8] (by rfl) fun K6 hK6 => ?_ -- region 4
    simp only [go_sem, Nat.reduceAdd, Nat.reduceEqDiff, Nat.reduceLeDiff, true_and, app_get, app_get0, app_set, app_set0, bs_size, len_row, List.length_map, aExtract]
    refine sC.of en6 ((rlexL s (by omega) hR).on _).here (by rfl) ?_
    simp only [go_sem, Nat.reduceAdd, Nat.reduceEqDiff, Nat.reduceLeDiff, true_and, app_get, app_get0, app_set, app_set0, bs_size, len_row, List.length_map, aExtract]
    refine hK6 _ _ ?_; try clear hK6 K6
    conv => enter [5]; simp only [setL_cons, setL_nil, List.set_cons_zero, List.set_cons_succ]
    refine AW.seq_k fun K7 hK7 => ?_
    refine AW.regtf false 37 (.val (.bool (false))) (by rfl) ?_ ?_ -- region 5
    · skip
      simp only [go_sem, Nat.reduceAdd, Nat.reduceEqDiff, Nat.reduceLeDiff, true_and, app_get, app_get0, app_set, app_set0, bs_size, len_row, List.length_map, bne_self_eq_false]
      try simp [upd_at, app_get, app_get0, app_set, app_set0, bs_size, len_row, List.length_map, bne_self_eq_false]
    conv => enter [5]; simp only [List.set_cons_zero, List.set_cons_succ]
    refine AW.cond rfl (fun hc37 => ?_) (fun hc37 => ?_)
    · skip
      exact absurd hc37 (by simp)
    · skip
      refine AW.skip ?_
      refine hK7 _ _ ?_; try clear hK7 K7
      refine AW.regl false [9] (by rfl) fun K9 hK9 => ?_ -- region 7
      simp only [go_sem, Nat.reduceAdd, Nat.reduceEqDiff, Nat.reduceLeDiff, true_and, app_get, app_get0, app_set, app_set0, bs_size, len_row, List.length_map]
      refine hK9 _ _ ?_; try clear hK9 K9
      conv => enter [5]; simp only [setL_cons, setL_nil, List.set_cons_zero, List.set_cons_succ, upd_none, upd_at]
      refine AW.seq_k fun K10 hK10 => ?_
      refine AW.regl false [40] (by rfl) fun K11 hK11 => ?_ -- region 8
      simp only [go_sem, Nat.reduceAdd, Nat.reduceEqDiff, Nat.reduceLeDiff, true_and, app_get, app_get0, app_set, app_set0, bs_size, len_row, List.length_map]
      refine hK11 _ _ ?_; try clear hK11 K11
      conv => enter [5]; simp only [setL_cons, setL_nil, List.set_cons_zero, List.set_cons_succ]
      refine AW.cond rfl (fun hc40 => ?_) (fun hc40 => ?_)
      · skip
        have hE0 : ¬ E = 0 := by simpa using hc40
        obtain ⟨ha, hb⟩ := habE hE0
        refine AW.lastl false [] (by rfl) fun K hK => ?_ -- region 9
        simp only [go_sem, Nat.reduceAdd, Nat.reduceEqDiff, Nat.reduceLeDiff, true_and, app_get, app_get0, app_set, app_set0, bs_size, len_row, List.length_map, aExtract]
        refine sC.of en7 ((rplace_calls s (by omega) q).on _).here (by rfl) ?_
        simp only [go_sem, Nat.reduceAdd, Nat.reduceEqDiff, Nat.reduceLeDiff, true_and, app_get, app_get0, app_set, app_set0, bs_size, len_row, List.length_map, aExtract]
        refine hK _ _ fun env' hw => ?_
        simp only [setL_cons, setL_nil, List.set_cons_zero, List.set_cons_succ] at hw
        refine hK10 _ _ (AW.weaken hw ?_); clear hw; try clear hK10 K10
        refine AW.seq_k fun K12 hK12 => ?_
        refine AW.regl false [51] (by rfl) fun K13 hK13 => ?_ -- region 10
        simp only [go_sem, Nat.reduceAdd, Nat.reduceEqDiff, Nat.reduceLeDiff, true_and, app_get, app_get0, app_set, app_set0, bs_size, len_row, List.length_map, ne24e ha hb]
        refine hK13 _ _ ?_; try clear hK13 K13
        conv => enter [5]; simp only [setL_cons, setL_nil, List.set_cons_zero, List.set_cons_succ]
        refine AW.cond rfl (fun hc51 => ?_) (fun hc51 => ?_)
        · skip
          exact absurd hc51 (by simp)
        · skip
          refine AW.skip ?_
          refine hK12 _ _ ?_; try clear hK12 K12
          refine AW.seq_k fun K14 hK14 => ?_
          refine AW.regl false [10] (by rfl) fun K15 hK15 => ?_ -- region 12
          simp only [go_sem, Nat.reduceAdd, Nat.reduceEqDiff, Nat.reduceLeDiff, true_and, app_get, app_get0, app_set, app_set0, bs_size, len_row, List.length_map]
          refine hK15 _ _ ?_; try clear hK15 K15
          conv => enter [5]; simp only [setL_cons, setL_nil, List.set_cons_zero, List.set_cons_succ]
          refine AW.block ?_
          refine AW.loop_wk (α := Nat) (fun i => [(.val (.string (bs s))), .any, .any, (rowAV 5 true (L.map (tokT s))), .any, .any, (rowAV 4 true (L.map (rtok s))), .any, .any, .any, (.val (.int .i64 ((i : Nat) : Int))), .any, .any, .any, .any, .any, .any, .any, .any, .any, .any, .any, .any, .any, .any, .any, .any, .any, .any, .any, .any, .any, .any, .any, .any, .any, .any, .any, .any, .any, .any, .any, .any, .any, .any, .any, .any, .any, .any, .any, .any, .any, .any, .any, .any, .any, .any, .any, .any, .any, .any, .any, .any, .any, .any, .any, .any, .any, .any, .any, .any, .any, .any, .any, .any, .any, .any, .any, .any, .any, .any, .any, .any, .any, .any, .any, .any, .any, .any, .any, .any, .any, .any]) (fun i => σ ++ [.cells [.val (.int .i64 a), .val (.int .i64 b)], .cells [.val (.int .i64 ((place s q).1)), .val (.int .i64 ((place s q).2))]]) (fun i => L.length - i) (fun i => i ≤ L.length) 0 ?_ ?_
          · exact ⟨Nat.zero_le _, by simp [Wk], rfl⟩
          · intro i hi
            refine AW.seq_k fun K16 hK16 => ?_
            refine AW.regl false [55] (by rfl) fun K17 hK17 => ?_ -- region 13
            simp only [go_sem, Nat.reduceAdd, Nat.reduceEqDiff, Nat.reduceLeDiff, true_and, app_get, app_get0, app_set, app_set0, bs_size, len_row, List.length_map]
            refine hK17 _ _ ?_; try clear hK17 K17
            conv => enter [5]; simp only [setL_cons, setL_nil, List.set_cons_zero, List.set_cons_succ]
            refine AW.cond rfl (fun hc55 => ?_) (fun hc55 => ?_)
            · skip
              have hi1 : i < L.length := by simpa using hc55
              have hx : (L.map (tokT s))[i]? = some (tokT s L[i]) := by simp [hi1]
              have hy : (L.map (rtok s))[i]? = some (rtok s L[i]) := by simp [hi1]
              refine AW.skip ?_
              refine hK16 _ _ ?_; try clear hK16 K16
              refine AW.seq_k fun K18 hK18 => ?_
              refine AW.block ?_
              refine AW.regl false [11, 12] (by rfl) fun K19 hK19 => ?_ -- region 15
              simp only [go_sem, Nat.reduceAdd, Nat.reduceEqDiff, Nat.reduceLeDiff, true_and, app_get, app_get0, app_set, app_set0, bs_size, len_row, List.length_map, aExtract, at_row hy, rtok]
              refine sC.of en7 ((rplace_calls s (by omega) L[i].at_).on _).here (by rfl) ?_
              simp only [go_sem, Nat.reduceAdd, Nat.reduceEqDiff, Nat.reduceLeDiff, true_and, app_get, app_get0, app_set, app_set0, bs_size, len_row, List.length_map, aExtract, at_row hy, rtok]
              refine hK19 _ _ ?_; try clear hK19 K19
              conv => enter [5]; simp only [setL_cons, setL_nil, List.set_cons_zero, List.set_cons_succ]
              refine AW.regdl mixed false [91] (by kernel_rfl) (by rfl) fun K20 hK20 => ?_ -- region 16
              simp only [go_sem, Nat.reduceAdd, Nat.reduceEqDiff, Nat.reduceLeDiff, true_and, app_get, app_get0, app_set, app_set0, bs_size, len_row, List.length_map, at_row hx, at_row hy, tokT, rtok, ne36]
              refine hK20 _ ?_; try clear hK20 K20
              conv => enter [5]; simp only [setL_cons, setL_nil, List.set_cons_zero, List.set_cons_succ]
              refine AW.cond rfl (fun hc91 => ?_) (fun hc91 => ?_)
              · skip
                exact absurd hc91 (by simp)
              · skip
                refine AW.skip ?_
                refine hK18 _ _ ?_; try clear hK18 K18
                refine AW.lastl false [10] (by rfl) fun K hK => ?_ -- region 14
                simp only [go_sem, Nat.reduceAdd, Nat.reduceEqDiff, Nat.reduceLeDiff, true_and, app_get, app_get0, app_set, app_set0, bs_size, len_row, List.length_map]
                refine hK _ _ fun env' hw => ?_
                simp only [setL_cons, setL_nil, List.set_cons_zero, List.set_cons_succ] at hw
                refine ⟨i + 1, by omega, by omega, ?_, rfl⟩
                refine hw.trans ?_
                simp [Wk, wrap_succ hi1 hlm]
                try omega
            · skip
              have hi1 : i = L.length := by
                have : ¬ i < L.length := by simpa using hc55
                omega
              refine AW.exit ?_
              refine hK14 _ _ ?_; try clear hK14 K14
              refine AW.regl false [2] (by rfl) fun K21 hK21 => ?_ -- region 18
              simp only [go_sem, Nat.reduceAdd, Nat.reduceEqDiff, Nat.reduceLeDiff, true_and, app_get, app_get0, app_set, app_set0, bs_size, len_row, List.length_map]
              refine sC.of en8 ((awake_calls hΓ).on _).here (by rfl) ?_
              simp only [go_sem, Nat.reduceAdd, Nat.reduceEqDiff, Nat.reduceLeDiff, true_and, app_get, app_get0, app_set, app_set0, bs_size, len_row, List.length_map]
              refine hK21 _ _ ?_; try clear hK21 K21
              conv => enter [5]; simp only [setL_cons, setL_nil, List.set_cons_zero, List.set_cons_succ]
              refine AW.ret ⟨.inr rfl, _, rfl, by simp, ?_⟩ -- return 2
              exact .keep rfl
      · skip
        have hE0 : E = 0 := by simpa using hc40
        obtain ⟨ha, hb⟩ := hab0 hE0
        refine AW.skip ?_
        refine hK10 _ _ ?_; try clear hK10 K10
        refine AW.seq_k fun K22 hK22 => ?_
        refine AW.regl false [51] (by rfl) fun K23 hK23 => ?_ -- region 10
        simp only [go_sem, Nat.reduceAdd, Nat.reduceEqDiff, Nat.reduceLeDiff, true_and, app_get, app_get0, app_set, app_set0, bs_size, len_row, List.length_map, ne24e ha hb]
        refine hK23 _ _ ?_; try clear hK23 K23
        conv => enter [5]; simp only [setL_cons, setL_nil, List.set_cons_zero, List.set_cons_succ]
        refine AW.cond rfl (fun hc51 => ?_) (fun hc51 => ?_)
        · skip
          exact absurd hc51 (by simp)
        · skip
          refine AW.skip ?_
          refine hK22 _ _ ?_; try clear hK22 K22
          refine AW.seq_k fun K24 hK24 => ?_
          refine AW.regl false [10] (by rfl) fun K25 hK25 => ?_ -- region 12
          simp only [go_sem, Nat.reduceAdd, Nat.reduceEqDiff, Nat.reduceLeDiff, true_and, app_get, app_get0, app_set, app_set0, bs_size, len_row, List.length_map]
          refine hK25 _ _ ?_; try clear hK25 K25
          conv => enter [5]; simp only [setL_cons, setL_nil, List.set_cons_zero, List.set_cons_succ]
          refine AW.block ?_
          refine AW.loop_wk (α := Nat) (fun i => [(.val (.string (bs s))), .any, .any, (rowAV 5 true (L.map (tokT s))), .any, .any, (rowAV 4 true (L.map (rtok s))), .any, .any, .any, (.val (.int .i64 ((i : Nat) : Int))), .any, .any, .any, .any, .any, .any, .any, .any, .any, .any, .any, .any, .any, .any, .any, .any, .any, .any, .any, .any, .any, .any, .any, .any, .any, .any, .any, .any, .any, .any, .any, .any, .any, .any, .any, .any, .any, .any, .any, .any, .any, .any, .any, .any, .any, .any, .any, .any, .any, .any, .any, .any, .any, .any, .any, .any, .any, .any, .any, .any, .any, .any, .any, .any, .any, .any, .any, .any, .any, .any, .any, .any, .any, .any, .any, .any, .any, .any, .any, .any, .any, .any]) (fun i => σ ++ [.cells [.val (.int .i64 a), .val (.int .i64 b)], .cells [.val (.int .i64 0), .val (.int .i64 0)]]) (fun i => L.length - i) (fun i => i ≤ L.length) 0 ?_ ?_
          · exact ⟨Nat.zero_le _, by simp [Wk], rfl⟩
          · intro i hi
            refine AW.seq_k fun K26 hK26 => ?_
            refine AW.regl false [55] (by rfl) fun K27 hK27 => ?_ -- region 13
            simp only [go_sem, Nat.reduceAdd, Nat.reduceEqDiff, Nat.reduceLeDiff, true_and, app_get, app_get0, app_set, app_set0, bs_size, len_row, List.length_map]
            refine hK27 _ _ ?_; try clear hK27 K27
            conv => enter [5]; simp only [setL_cons, setL_nil, List.set_cons_zero, List.set_cons_succ]
            refine AW.cond rfl (fun hc55 => ?_) (fun hc55 => ?_)
            · skip
              have hi1 : i < L.length := by simpa using hc55
              have hx : (L.map (tokT s))[i]? = some (tokT s L[i]) := by simp [hi1]
              have hy : (L.map (rtok s))[i]? = some (rtok s L[i]) := by simp [hi1]
              refine AW.skip ?_
              refine hK26 _ _ ?_; try clear hK26 K26
              refine AW.seq_k fun K28 hK28 => ?_
              refine AW.block ?_
              refine AW.regl false [11, 12] (by rfl) fun K29 hK29 => ?_ -- region 15
              simp only [go_sem, Nat.reduceAdd, Nat.reduceEqDiff, Nat.reduceLeDiff, true_and, app_get, app_get0, app_set, app_set0, bs_size, len_row, List.length_map, aExtract, at_row hy, rtok]
              refine sC.of en7 ((rplace_calls s (by omega) L[i].at_).on _).here (by rfl) ?_
              simp only [go_sem, Nat.reduceAdd, Nat.reduceEqDiff, Nat.reduceLeDiff, true_and, app_get, app_get0, app_set, app_set0, bs_size, len_row, List.length_map, aExtract, at_row hy, rtok]
              refine hK29 _ _ ?_; try clear hK29 K29
              conv => enter [5]; simp only [setL_cons, setL_nil, List.set_cons_zero, List.set_cons_succ]
              refine AW.regdl mixed false [91] (by kernel_rfl) (by rfl) fun K30 hK30 => ?_ -- region 16
              simp only [go_sem, Nat.reduceAdd, Nat.reduceEqDiff, Nat.reduceLeDiff, true_and, app_get, app_get0, app_set, app_set0, bs_size, len_row, List.length_map, at_row hx, at_row hy, tokT, rtok, ne36]
              refine hK30 _ ?_; try clear hK30 K30
              conv => enter [5]; simp only [setL_cons, setL_nil, List.set_cons_zero, List.set_cons_succ]
              refine AW.cond rfl (fun hc91 => ?_) (fun hc91 => ?_)
              · skip
                exact absurd hc91 (by simp)
              · skip
                refine AW.skip ?_
                refine hK28 _ _ ?_; try clear hK28 K28
                refine AW.lastl false [10] (by rfl) fun K hK => ?_ -- region 14
                simp only [go_sem, Nat.reduceAdd, Nat.reduceEqDiff, Nat.reduceLeDiff, true_and, app_get, app_get0, app_set, app_set0, bs_size, len_row, List.length_map]
                refine hK _ _ fun env' hw => ?_
                simp only [setL_cons, setL_nil, List.set_cons_zero, List.set_cons_succ] at hw
                refine ⟨i + 1, by omega, by omega, ?_, rfl⟩
                refine hw.trans ?_
                simp [Wk, wrap_succ hi1 hlm]
                try omega
            · skip
              have hi1 : i = L.length := by
                have : ¬ i < L.length := by simpa using hc55
                omega
              refine AW.exit ?_
              refine hK24 _ _ ?_; try clear hK24 K24
              refine AW.regl false [2] (by rfl) fun K31 hK31 => ?_ -- region 18
              simp only [go_sem, Nat.reduceAdd, Nat.reduceEqDiff, Nat.reduceLeDiff, true_and, app_get, app_get0, app_set, app_set0, bs_size, len_row, List.length_map]
              refine sC.of en8 ((awake_calls hΓ).on _).here (by rfl) ?_
              simp only [go_sem, Nat.reduceAdd, Nat.reduceEqDiff, Nat.reduceLeDiff, true_and, app_get, app_get0, app_set, app_set0, bs_size, len_row, List.length_map]
              refine hK31 _ _ ?_; try clear hK31 K31
              conv => enter [5]; simp only [setL_cons, setL_nil, List.set_cons_zero, List.set_cons_succ]
              refine AW.ret ⟨.inr rfl, _, rfl, by simp, ?_⟩ -- return 3
              exact .keep rfl
end Lx
end Go.Proofs.Tryd
