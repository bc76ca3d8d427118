import Derived.Test.YtnfimclkiccdhaaDoorPkPtC
/-! Printing: function 25. -/
namespace Go.Proofs.Tryd
set_option linter.unusedSimpArgs false
set_option linter.unusedVariables false
open Go Go.Proofs.Ev
namespace Pr
variable {Γ : List (Nat × List AV)}
set_option maxRecDepth 100000 in
theorem prefixes_calls : APure prog Γ 25 [] (.sl 1 [str ⟨#[45]⟩, str ⟨#[110, 111, 116]⟩, str ⟨#[112, 114, 101]⟩]) := by
  refine APure.of func25 rfl fun σ => ?_
  simp only [ntmps25, List.length_cons, List.length_nil, Nat.reduceAdd, Nat.reduceSub, List.replicate_succ, List.replicate_zero, List.cons_append, List.nil_append]
  refine AW.regl false [0] (by rfl) fun K1 hK1 => ?_ -- region 0
  simp only [go_sem, Nat.reduceAdd, Nat.reduceEqDiff, Nat.reduceLeDiff, true_and, List.length_map, len_row, one_row, A.enc_one, A.enc_len, bs_size, app_get, app_get0]
  refine hK1 _ _ ?_; try clear hK1 K1
  conv => enter [5]; simp only [setL_cons, setL_nil, List.set_cons_zero, List.set_cons_succ]
  refine AW.regl false [0] (by rfl) fun K2 hK2 => ?_ -- region 1
  simp only [go_sem, Nat.reduceAdd, Nat.reduceEqDiff, Nat.reduceLeDiff, true_and, List.length_map, len_row, one_row, A.enc_one, A.enc_len, bs_size, app_get, app_get0, row3_51]
  refine hK2 _ _ ?_; try clear hK2 K2
  conv => enter [5]; simp only [setL_cons, setL_nil, List.set_cons_zero, List.set_cons_succ]
  refine AW.ret ⟨.inr rfl, _, rfl, by simp, ?_⟩ -- return 1
  exact .keep rfl
end Pr
end Go.Proofs.Tryd
/-! Printing: function 27. -/
namespace Go.Proofs.Tryd
set_option linter.unusedSimpArgs false
set_option linter.unusedVariables false
open Go Go.Proofs.Ev
namespace Pr
variable {Γ : List (Nat × List AV)}
set_option maxRecDepth 100000 in
theorem texts_calls : APure prog Γ 27 [] txtA := by
  refine APure.of func27 rfl fun σ => ?_
  simp only [ntmps27, List.length_cons, List.length_nil, Nat.reduceAdd, Nat.reduceSub, List.replicate_succ, List.replicate_zero, List.cons_append, List.nil_append]
  refine AW.regl false [0] (by rfl) fun K1 hK1 => ?_ -- region 0
  simp only [go_sem, Nat.reduceAdd, Nat.reduceEqDiff, Nat.reduceLeDiff, true_and, List.length_map, len_row, one_row, A.enc_one, A.enc_len, bs_size, app_get, app_get0]
  refine hK1 _ _ ?_; try clear hK1 K1
  conv => enter [5]; simp only [setL_cons, setL_nil, List.set_cons_zero, List.set_cons_succ]
  refine AW.regl false [0] (by rfl) fun K2 hK2 => ?_ -- region 1
  simp only [go_sem, Nat.reduceAdd, Nat.reduceEqDiff, Nat.reduceLeDiff, true_and, List.length_map, len_row, one_row, A.enc_one, A.enc_len, bs_size, app_get, app_get0, row16_51]
  refine hK2 _ _ ?_; try clear hK2 K2
  conv => enter [5]; simp only [setL_cons, setL_nil, List.set_cons_zero, List.set_cons_succ]
  refine AW.ret ⟨.inr rfl, _, rfl, by simp, ?_⟩ -- return 1
  exact .keep rfl
end Pr
end Go.Proofs.Tryd
/-! Printing: function 11. -/
namespace Go.Proofs.Tryd
set_option linter.unusedSimpArgs false
set_option linter.unusedVariables false
open Go Go.Proofs.Ev
namespace Pr
variable {Γ : List (Nat × List AV)}
set_option maxRecDepth 100000 in
set_option maxHeartbeats 2000000 in
open A (E VarM EqM NodeM ProgM) in
theorem rexpr_step (k p n : Int) (s : ByteArray) (nl : Bool) (l : List E) (h1 : A.single k p n s l.length = true) (hr : rng (.mk k p n s nl l)) (hk : ∀ e ∈ l, ∃ k2 p2 n2 s2 nl2 l2, e = E.mk k2 p2 n2 s2 nl2 l2 ∧ (k2 = 4 → 0 ≤ p2 ∧ p2 ≤ 15)) (ih : ∀ e ∈ l, APure prog Γ 11 [E.enc e] (str (bs (tx e)))) (hf : (tx (.mk k p n s nl l)).length ≤ 100000000) : APure prog Γ 11 [E.enc (.mk k p n s nl l)] (str (bs (tx (.mk k p n s nl l)))) := by
  refine APure.of func11 rfl fun σ => ?_
  simp only [ntmps11, List.length_cons, List.length_nil, Nat.reduceAdd, Nat.reduceSub, List.replicate_succ, List.replicate_zero, List.cons_append, List.nil_append]
  rw [E.enc_mk]
  have hl : l.length ≤ maxLen := by
    rw [maxLen_eq]
    have h2 := h1
    unfold A.single at h2
    repeat' split at h2
    all_goals (simp at h2 <;> first | omega | (rw [h2.2]; simp))
  unfold A.single at h1
  refine AW.regl false [1, 2] (by rfl) fun K1 hK1 => ?_ -- region 0
  simp only [go_sem, Nat.reduceAdd, Nat.reduceEqDiff, Nat.reduceLeDiff, true_and, List.length_map, len_row, one_row, A.enc_one, A.enc_len, bs_size, app_get, app_get0, A.enc_get43]
  refine hK1 _ _ ?_; try clear hK1 K1
  conv => enter [5]; simp only [setL_cons, setL_nil, List.set_cons_zero, List.set_cons_succ]
  refine AW.seq_k fun K2 hK2 => ?_
  refine AW.regl false [10] (by rfl) fun K3 hK3 => ?_ -- region 1
  simp only [go_sem, Nat.reduceAdd, Nat.reduceEqDiff, Nat.reduceLeDiff, true_and, List.length_map, len_row, one_row, A.enc_one, A.enc_len, bs_size, app_get, app_get0, A.enc_get43]
  refine hK3 _ _ ?_; try clear hK3 K3
  conv => enter [5]; simp only [setL_cons, setL_nil, List.set_cons_zero, List.set_cons_succ]
  refine AW.block ?_
  refine AW.regl false [11] (by rfl) fun K4 hK4 => ?_ -- region 2
  simp only [go_sem, Nat.reduceAdd, Nat.reduceEqDiff, Nat.reduceLeDiff, true_and, List.length_map, len_row, one_row, A.enc_one, A.enc_len, bs_size, app_get, app_get0, A.enc_get43]
  refine hK4 _ _ ?_; try clear hK4 K4
  conv => enter [5]; simp only [setL_cons, setL_nil, List.set_cons_zero, List.set_cons_succ]
  refine AW.cond rfl (fun hc11 => ?_) (fun hc11 => ?_)
  · skip
    have hq : tx (.mk k p n s nl l) = Lib.itoa n := by rw [tx_mk]; unfold txt; rw [if_pos hc11]
    have h0n : 0 ≤ n := by
      have hk0 : k = 0 := by simpa using hc11
      subst hk0
      simp at h1
      omega
    have hnum : APure prog Γ 23 [i64 n] (str (bs (Lib.itoa n))) := by
      obtain ⟨m, rfl⟩ := Int.eq_ofNat_of_zero_le h0n
      have := num_calls (Γ := Γ) m (by have := hr.2; omega)
      rwa [show Lib.decDigits m = Lib.itoa (m : Int) by rw [Lib.itoa, if_neg (by omega)]; rfl] at this
    refine AW.regl false [2] (by rfl) fun K5 hK5 => ?_ -- region 3
    simp only [go_sem, Nat.reduceAdd, Nat.reduceEqDiff, Nat.reduceLeDiff, true_and, List.length_map, len_row, one_row, A.enc_one, A.enc_len, bs_size, app_get, app_get0, A.enc_get43]
    refine sC.of en23 (hnum.on _).here (by rfl) ?_
    simp only [go_sem, Nat.reduceAdd, Nat.reduceEqDiff, Nat.reduceLeDiff, true_and, List.length_map, len_row, one_row, A.enc_one, A.enc_len, bs_size, app_get, app_get0, A.enc_get43]
    refine hK5 _ _ ?_; try clear hK5 K5
    conv => enter [5]; simp only [setL_cons, setL_nil, List.set_cons_zero, List.set_cons_succ]
    refine AW.ret ⟨.inr rfl, _, rfl, by simp, ?_⟩ -- return 1
    rw [hq]
    exact .keep rfl
  · skip
    refine AW.regl false [16] (by rfl) fun K6 hK6 => ?_ -- region 4
    simp only [go_sem, Nat.reduceAdd, Nat.reduceEqDiff, Nat.reduceLeDiff, true_and, List.length_map, len_row, one_row, A.enc_one, A.enc_len, bs_size, app_get, app_get0, A.enc_get43]
    refine hK6 _ _ ?_; try clear hK6 K6
    conv => enter [5]; simp only [setL_cons, setL_nil, List.set_cons_zero, List.set_cons_succ]
    refine AW.cond rfl (fun hc16 => ?_) (fun hc16 => ?_)
    · skip
      have hq : tx (.mk k p n s nl l) = truthT (n == 1) := by rw [tx_mk]; unfold txt; rw [if_neg (ne_true_of_eq_false hc11), if_pos hc16]
      refine AW.seq_k fun K7 hK7 => ?_
      refine AW.regl false [20] (by rfl) fun K8 hK8 => ?_ -- region 5
      simp only [go_sem, Nat.reduceAdd, Nat.reduceEqDiff, Nat.reduceLeDiff, true_and, List.length_map, len_row, one_row, A.enc_one, A.enc_len, bs_size, app_get, app_get0, A.enc_get43]
      refine hK8 _ _ ?_; try clear hK8 K8
      conv => enter [5]; simp only [setL_cons, setL_nil, List.set_cons_zero, List.set_cons_succ]
      refine AW.cond rfl (fun hc20 => ?_) (fun hc20 => ?_)
      · skip
        have hq2 : truthT (n == 1) = [116, 114, 117, 101] := by rw [show (n == 1) = true from hc20]; rfl
        refine AW.regl false [2] (by rfl) fun K9 hK9 => ?_ -- region 6
        simp only [go_sem, Nat.reduceAdd, Nat.reduceEqDiff, Nat.reduceLeDiff, true_and, List.length_map, len_row, one_row, A.enc_one, A.enc_len, bs_size, app_get, app_get0, A.enc_get43]
        refine hK9 _ _ ?_; try clear hK9 K9
        conv => enter [5]; simp only [setL_cons, setL_nil, List.set_cons_zero, List.set_cons_succ]
        refine AW.ret ⟨.inr rfl, _, rfl, by simp, ?_⟩ -- return 2
        rw [hq, hq2]
        exact .keep rfl
      · skip
        have hq2 : truthT (n == 1) = [102, 97, 108, 115, 101] := by rw [show (n == 1) = false from hc20]; rfl
        refine AW.skip ?_
        refine hK7 _ _ ?_; try clear hK7 K7
        refine AW.regl false [2] (by rfl) fun K10 hK10 => ?_ -- region 7
        simp only [go_sem, Nat.reduceAdd, Nat.reduceEqDiff, Nat.reduceLeDiff, true_and, List.length_map, len_row, one_row, A.enc_one, A.enc_len, bs_size, app_get, app_get0, A.enc_get43]
        refine hK10 _ _ ?_; try clear hK10 K10
        conv => enter [5]; simp only [setL_cons, setL_nil, List.set_cons_zero, List.set_cons_succ]
        refine AW.ret ⟨.inr rfl, _, rfl, by simp, ?_⟩ -- return 3
        rw [hq, hq2]
        exact .keep rfl
    · skip
      refine AW.regl false [21] (by rfl) fun K11 hK11 => ?_ -- region 8
      simp only [go_sem, Nat.reduceAdd, Nat.reduceEqDiff, Nat.reduceLeDiff, true_and, List.length_map, len_row, one_row, A.enc_one, A.enc_len, bs_size, app_get, app_get0, A.enc_get43]
      refine hK11 _ _ ?_; try clear hK11 K11
      conv => enter [5]; simp only [setL_cons, setL_nil, List.set_cons_zero, List.set_cons_succ]
      refine AW.cond rfl (fun hc21 => ?_) (fun hc21 => ?_)
      · skip
        have hq : tx (.mk k p n s nl l) = s.data.toList := by rw [tx_mk]; unfold txt; rw [if_neg (ne_true_of_eq_false hc11), if_neg (ne_true_of_eq_false hc16), if_pos hc21]
        refine AW.regl false [2] (by rfl) fun K12 hK12 => ?_ -- region 9
        simp only [go_sem, Nat.reduceAdd, Nat.reduceEqDiff, Nat.reduceLeDiff, true_and, List.length_map, len_row, one_row, A.enc_one, A.enc_len, bs_size, app_get, app_get0, A.enc_get43]
        refine hK12 _ _ ?_; try clear hK12 K12
        conv => enter [5]; simp only [setL_cons, setL_nil, List.set_cons_zero, List.set_cons_succ]
        refine AW.ret ⟨.inr rfl, _, rfl, by simp, ?_⟩ -- return 4
        rw [hq]
        exact .keep rfl
      · skip
        refine AW.regl false [25] (by rfl) fun K13 hK13 => ?_ -- region 10
        simp only [go_sem, Nat.reduceAdd, Nat.reduceEqDiff, Nat.reduceLeDiff, true_and, List.length_map, len_row, one_row, A.enc_one, A.enc_len, bs_size, app_get, app_get0, A.enc_get43]
        refine hK13 _ _ ?_; try clear hK13 K13
        conv => enter [5]; simp only [setL_cons, setL_nil, List.set_cons_zero, List.set_cons_succ]
        refine AW.cond rfl (fun hc25 => ?_) (fun hc25 => ?_)
        · skip
          obtain rfl : k = 3 := by simpa using hc25
          have hl1 : l.length = 1 ∧ 0 ≤ p ∧ p ≤ 2 := by simp at h1; omega
          obtain ⟨hl1, h0p, h2p⟩ := hl1
          obtain ⟨x, rfl⟩ := List.length_eq_one_iff.1 hl1
          obtain ⟨k2, p2, n2, s2, nl2, l2, rfl, hp2⟩ := hk x (by simp)
          rw [show rowAV 5 nl ([(E.mk k2 p2 n2 s2 nl2 l2)].map E.enc) = .sl 5 [(.agg [.val (.int .i64 k2), .val (.int .i64 p2), .val (.int .i64 n2), .val (.string s2), rowAV 5 nl2 (l2.map E.enc)])] from by rw [List.map_cons, E.enc_mk]; rfl]
          have hq : tx (.mk 3 p n s nl [(E.mk k2 p2 n2 s2 nl2 l2)]) = unPre p (E.mk k2 p2 n2 s2 nl2 l2) ++ oper (E.mk k2 p2 n2 s2 nl2 l2) 7 (tx (E.mk k2 p2 n2 s2 nl2 l2)) := by rw [tx_mk]; rfl
          rw [hq] at hf ⊢
          have hle : (tx (E.mk k2 p2 n2 s2 nl2 l2)).length ≤ (oper (E.mk k2 p2 n2 s2 nl2 l2) 7 (tx (E.mk k2 p2 n2 s2 nl2 l2))).length := oper_ge _ _ _
          simp only [List.length_append, List.length_cons, List.length_nil] at hf
          have hin := in_mk hp2 (ih (E.mk k2 p2 n2 s2 nl2 l2) (by simp)) 7 (by omega)
          obtain ⟨X3, hX3⟩ : ∃ z, z = (oper (E.mk k2 p2 n2 s2 nl2 l2) 7 (tx (E.mk k2 p2 n2 s2 nl2 l2))) := ⟨_, rfl⟩
          rw [← hX3] at hin hf ⊢
          have hpl : (preT p).length ≤ 3 := by
            unfold preT
            split
            · decide
            · split <;> decide
          refine AW.regl false [3] (by rfl) fun K14 hK14 => ?_ -- region 11
          simp only [go_sem, Nat.reduceAdd, Nat.reduceEqDiff, Nat.reduceLeDiff, true_and, List.length_map, len_row, one_row, A.enc_one, A.enc_len, bs_size, app_get, app_get0, A.enc_get43, at_sl0]
          refine sC.of en24 (hin.on _).here (by rfl) ?_
          simp only [go_sem, Nat.reduceAdd, Nat.reduceEqDiff, Nat.reduceLeDiff, true_and, List.length_map, len_row, one_row, A.enc_one, A.enc_len, bs_size, app_get, app_get0, A.enc_get43, at_sl0]
          refine hK14 _ _ ?_; try clear hK14 K14
          conv => enter [5]; simp only [setL_cons, setL_nil, List.set_cons_zero, List.set_cons_succ]
          refine AW.seq_k fun K15 hK15 => ?_
          refine AW.regl false [34] (by rfl) fun K16 hK16 => ?_ -- region 12
          simp only [go_sem, Nat.reduceAdd, Nat.reduceEqDiff, Nat.reduceLeDiff, true_and, List.length_map, len_row, one_row, A.enc_one, A.enc_len, bs_size, app_get, app_get0, A.enc_get43]
          refine hK16 _ _ ?_; try clear hK16 K16
          conv => enter [5]; simp only [setL_cons, setL_nil, List.set_cons_zero, List.set_cons_succ]
          refine AW.cond rfl (fun hc34 => ?_) (fun hc34 => ?_)
          · skip
            have hu : unPre p (E.mk k2 p2 n2 s2 nl2 l2) = preT p ++ [32] := by
              have h := hc34
              simp at h
              rcases (show p = 1 ∨ p = 2 by omega) with rfl | rfl <;> rfl
            obtain ⟨T40, hT40⟩ : ∃ z, z = (preT p) ++ ([32] : List UInt8) := ⟨_, rfl⟩
            have hL40 : T40.length = (preT p).length + ([32] : List UInt8).length := by rw [hT40, List.length_append]
            try simp only [List.length_cons, List.length_nil] at hL40
            have hA40 : aBin prog .add 9 (.val (.string (bs (preT p)))) (.val (.string ⟨#[32]⟩)) = some (.val (.string (bs T40))) := by rw [hT40]; exact addS _ (a := (preT p)) (b := ([32] : List UInt8)) (show _ ≤ 140737488355328 by (try simp only [List.length_cons, List.length_nil]); omega)
            obtain ⟨T42, hT42⟩ : ∃ z, z = T40 ++ X3 := ⟨_, rfl⟩
            have hL42 : T42.length = T40.length + X3.length := by rw [hT42, List.length_append]
            have hA42 : aBin prog .add 9 (.val (.string (bs T40))) (.val (.string (bs X3))) = some (.val (.string (bs T42))) := by rw [hT42]; exact addS _ (a := T40) (b := X3) (show _ ≤ 140737488355328 by (try simp only [List.length_cons, List.length_nil]); omega)
            refine AW.regdl mixed false [2] (by kernel_rfl) (by rfl) fun K17 hK17 => ?_ -- region 13
            simp only [go_sem, Nat.reduceAdd, Nat.reduceEqDiff, Nat.reduceLeDiff, true_and, List.length_map, len_row, one_row, A.enc_one, A.enc_len, bs_size, app_get, app_get0, A.enc_get43, pre_at h0p h2p, hA40, hA42]
            refine qC.of en25 (prefixes_calls.on _).here (by rfl) ?_
            simp only [go_sem, Nat.reduceAdd, Nat.reduceEqDiff, Nat.reduceLeDiff, true_and, List.length_map, len_row, one_row, A.enc_one, A.enc_len, bs_size, app_get, app_get0, A.enc_get43, pre_at h0p h2p, hA40, hA42]
            refine hK17 _ ?_; try clear hK17 K17
            conv => enter [5]; simp only [setL_cons, setL_nil, List.set_cons_zero, List.set_cons_succ]
            refine AW.ret ⟨.inr rfl, _, rfl, by simp, ?_⟩ -- return 5
            rw [hu, show preT p ++ [32] ++ X3 = T42 by rw [hT42, hT40]]
            exact .keep rfl
          · skip
            obtain rfl : p = 0 := by have h := hc34; simp at h; omega
            refine AW.skip ?_
            refine hK15 _ _ ?_; try clear hK15 K15
            refine AW.seq_k fun K18 hK18 => ?_
            refine AW.regtf false 56 (.val (.bool ((k2 == 3) && (p2 == 0)))) (by rfl) ?_ ?_ -- region 14
            · skip
              cases h48 : ((k2 == 3))
              · skip
                simp only [go_sem, Nat.reduceAdd, Nat.reduceEqDiff, Nat.reduceLeDiff, true_and, List.length_map, len_row, one_row, A.enc_one, A.enc_len, bs_size, app_get, app_get0, A.enc_get43, at_sl0, h48]
                try simp [upd_at, h48, List.length_map, len_row, one_row, A.enc_one, A.enc_len, bs_size, app_get, app_get0, A.enc_get43, at_sl0]
              · skip
                simp only [go_sem, Nat.reduceAdd, Nat.reduceEqDiff, Nat.reduceLeDiff, true_and, List.length_map, len_row, one_row, A.enc_one, A.enc_len, bs_size, app_get, app_get0, A.enc_get43, at_sl0, h48]
                try simp [upd_at, h48, List.length_map, len_row, one_row, A.enc_one, A.enc_len, bs_size, app_get, app_get0, A.enc_get43, at_sl0]
            conv => enter [5]; simp only [List.set_cons_zero, List.set_cons_succ]
            refine AW.cond rfl (fun hc56 => ?_) (fun hc56 => ?_)
            · skip
              have hu : unPre 0 (E.mk k2 p2 n2 s2 nl2 l2) = [45, 32] := by rw [unPre_mk, if_neg (by decide), if_neg (by decide), if_pos hc56]
              obtain ⟨T58, hT58⟩ : ∃ z, z = ([45, 32] : List UInt8) ++ X3 := ⟨_, rfl⟩
              have hL58 : T58.length = ([45, 32] : List UInt8).length + X3.length := by rw [hT58, List.length_append]
              try simp only [List.length_cons, List.length_nil] at hL58
              have hA58 : aBin prog .add 9 (.val (.string ⟨#[45, 32]⟩)) (.val (.string (bs X3))) = some (.val (.string (bs T58))) := by rw [hT58]; exact addS _ (a := ([45, 32] : List UInt8)) (b := X3) (show _ ≤ 140737488355328 by (try simp only [List.length_cons, List.length_nil]); omega)
              refine AW.regl false [2] (by rfl) fun K20 hK20 => ?_ -- region 15
              simp only [go_sem, Nat.reduceAdd, Nat.reduceEqDiff, Nat.reduceLeDiff, true_and, List.length_map, len_row, one_row, A.enc_one, A.enc_len, bs_size, app_get, app_get0, A.enc_get43, hA58]
              refine hK20 _ _ ?_; try clear hK20 K20
              conv => enter [5]; simp only [setL_cons, setL_nil, List.set_cons_zero, List.set_cons_succ]
              refine AW.ret ⟨.inr rfl, _, rfl, by simp, ?_⟩ -- return 6
              rw [hu, ← hT58]
              exact .keep rfl
            · skip
              have hu : unPre 0 (E.mk k2 p2 n2 s2 nl2 l2) = [45] := by rw [unPre_mk, if_neg (by decide), if_neg (by decide), if_neg (ne_true_of_eq_false hc56)]
              refine AW.skip ?_
              refine hK18 _ _ ?_; try clear hK18 K18
              obtain ⟨T60, hT60⟩ : ∃ z, z = ([45] : List UInt8) ++ X3 := ⟨_, rfl⟩
              have hL60 : T60.length = ([45] : List UInt8).length + X3.length := by rw [hT60, List.length_append]
              try simp only [List.length_cons, List.length_nil] at hL60
              have hA60 : aBin prog .add 9 (.val (.string ⟨#[45]⟩)) (.val (.string (bs X3))) = some (.val (.string (bs T60))) := by rw [hT60]; exact addS _ (a := ([45] : List UInt8)) (b := X3) (show _ ≤ 140737488355328 by (try simp only [List.length_cons, List.length_nil]); omega)
              refine AW.regl false [2] (by rfl) fun K21 hK21 => ?_ -- region 16
              simp only [go_sem, Nat.reduceAdd, Nat.reduceEqDiff, Nat.reduceLeDiff, true_and, List.length_map, len_row, one_row, A.enc_one, A.enc_len, bs_size, app_get, app_get0, A.enc_get43, hA60]
              refine hK21 _ _ ?_; try clear hK21 K21
              conv => enter [5]; simp only [setL_cons, setL_nil, List.set_cons_zero, List.set_cons_succ]
              refine AW.ret ⟨.inr rfl, _, rfl, by simp, ?_⟩ -- return 7
              rw [hu, ← hT60]
              exact .keep rfl
        · skip
          refine AW.regl false [61] (by rfl) fun K22 hK22 => ?_ -- region 17
          simp only [go_sem, Nat.reduceAdd, Nat.reduceEqDiff, Nat.reduceLeDiff, true_and, List.length_map, len_row, one_row, A.enc_one, A.enc_len, bs_size, app_get, app_get0, A.enc_get43]
          refine hK22 _ _ ?_; try clear hK22 K22
          conv => enter [5]; simp only [setL_cons, setL_nil, List.set_cons_zero, List.set_cons_succ]
          refine AW.cond rfl (fun hc61 => ?_) (fun hc61 => ?_)
          · skip
            obtain rfl : k = 4 := by simpa using hc61
            have hl1 : l.length = 2 ∧ 0 ≤ p ∧ p ≤ 15 := by simp at h1; omega
            obtain ⟨hl1, h0p, h1p⟩ := hl1
            obtain ⟨x, y, rfl⟩ := len2 hl1
            obtain ⟨k2, p2, n2, s2, nl2, l2, rfl, hp2⟩ := hk x (by simp)
            obtain ⟨k3, p3, n3, s3, nl3, l3, rfl, hp3⟩ := hk y (by simp)
            rw [show rowAV 5 nl ([(E.mk k2 p2 n2 s2 nl2 l2), (E.mk k3 p3 n3 s3 nl3 l3)].map E.enc) = .sl 5 [(.agg [.val (.int .i64 k2), .val (.int .i64 p2), .val (.int .i64 n2), .val (.string s2), rowAV 5 nl2 (l2.map E.enc)]), (.agg [.val (.int .i64 k3), .val (.int .i64 p3), .val (.int .i64 n3), .val (.string s3), rowAV 5 nl3 (l3.map E.enc)])] from by rw [List.map_cons, List.map_cons, E.enc_mk, E.enc_mk]; rfl]
            have hq : tx (.mk 4 p n s nl [(E.mk k2 p2 n2 s2 nl2 l2), (E.mk k3 p3 n3 s3 nl3 l3)]) = oper (E.mk k2 p2 n2 s2 nl2 l2) (leftA p) (tx (E.mk k2 p2 n2 s2 nl2 l2)) ++ ([32] ++ (opT p ++ [32]) ++ oper (E.mk k3 p3 n3 s3 nl3 l3) (rightA p) (tx (E.mk k3 p3 n3 s3 nl3 l3))) := by rw [tx_mk]; rfl
            rw [hq] at hf ⊢
            have hle : (tx (E.mk k2 p2 n2 s2 nl2 l2)).length ≤ (oper (E.mk k2 p2 n2 s2 nl2 l2) (leftA p) (tx (E.mk k2 p2 n2 s2 nl2 l2))).length := oper_ge _ _ _
            have hle3 : (tx (E.mk k3 p3 n3 s3 nl3 l3)).length ≤ (oper (E.mk k3 p3 n3 s3 nl3 l3) (rightA p) (tx (E.mk k3 p3 n3 s3 nl3 l3))).length := oper_ge _ _ _
            simp only [List.length_append, List.length_cons, List.length_nil] at hf
            have hi2 := in_mk hp2 (ih (E.mk k2 p2 n2 s2 nl2 l2) (by simp)) (leftA p) (by omega)
            have hi3 := in_mk hp3 (ih (E.mk k3 p3 n3 s3 nl3 l3) (by simp)) (rightA p) (by omega)
            obtain ⟨YA, hYA⟩ : ∃ z, z = (oper (E.mk k2 p2 n2 s2 nl2 l2) (leftA p) (tx (E.mk k2 p2 n2 s2 nl2 l2))) := ⟨_, rfl⟩
            obtain ⟨YB, hYB⟩ : ∃ z, z = (oper (E.mk k3 p3 n3 s3 nl3 l3) (rightA p) (tx (E.mk k3 p3 n3 s3 nl3 l3))) := ⟨_, rfl⟩
            rw [← hYA, ← hYB] at hf ⊢
            rw [← hYA] at hi2
            rw [← hYB] at hi3
            refine AW.regl false [4] (by rfl) fun K23 hK23 => ?_ -- region 18
            simp only [go_sem, Nat.reduceAdd, Nat.reduceEqDiff, Nat.reduceLeDiff, true_and, List.length_map, len_row, one_row, A.enc_one, A.enc_len, bs_size, app_get, app_get0, A.enc_get43]
            refine sC.of en26 ((lv_calls p h0p h1p).on _).here (by rfl) ?_
            simp only [go_sem, Nat.reduceAdd, Nat.reduceEqDiff, Nat.reduceLeDiff, true_and, List.length_map, len_row, one_row, A.enc_one, A.enc_len, bs_size, app_get, app_get0, A.enc_get43]
            refine hK23 _ _ ?_; try clear hK23 K23
            conv => enter [5]; simp only [setL_cons, setL_nil, List.set_cons_zero, List.set_cons_succ]
            refine AW.regl false [5, 6] (by rfl) fun K24 hK24 => ?_ -- region 19
            simp only [go_sem, Nat.reduceAdd, Nat.reduceEqDiff, Nat.reduceLeDiff, true_and, List.length_map, len_row, one_row, A.enc_one, A.enc_len, bs_size, app_get, app_get0, A.enc_get43, opL_wrap p]
            refine hK24 _ _ ?_; try clear hK24 K24
            conv => enter [5]; simp only [setL_cons, setL_nil, List.set_cons_zero, List.set_cons_succ]
            refine AW.seq_k fun K25 hK25 => ?_
            refine AW.regtf false 74 (.val (.bool (((opL p) == 0) || ((opL p) == 1)))) (by rfl) ?_ ?_ -- region 20
            · skip
              cases h70 : (((opL p) == 0))
              · skip
                simp only [go_sem, Nat.reduceAdd, Nat.reduceEqDiff, Nat.reduceLeDiff, true_and, List.length_map, len_row, one_row, A.enc_one, A.enc_len, bs_size, app_get, app_get0, A.enc_get43, h70]
                try simp [upd_at, h70, List.length_map, len_row, one_row, A.enc_one, A.enc_len, bs_size, app_get, app_get0, A.enc_get43]
              · skip
                simp only [go_sem, Nat.reduceAdd, Nat.reduceEqDiff, Nat.reduceLeDiff, true_and, List.length_map, len_row, one_row, A.enc_one, A.enc_len, bs_size, app_get, app_get0, A.enc_get43, h70]
                try simp [upd_at, h70, List.length_map, len_row, one_row, A.enc_one, A.enc_len, bs_size, app_get, app_get0, A.enc_get43]
            conv => enter [5]; simp only [List.set_cons_zero, List.set_cons_succ]
            refine AW.cond rfl (fun hc74 => ?_) (fun hc74 => ?_)
            · skip
              have h01 : opL p = 0 ∨ opL p = 1 := by have h := hc74; simp at h; exact h
              have hiA := arg_at hi2 (show leftA p = opL p + 1 by rcases h01 with h | h <;> simp [leftA, h])
              have hiB := arg_at hi3 (show rightA p = opL p by rcases h01 with h | h <;> simp [rightA, h])
              refine AW.lastl false [5, 6] (by rfl) fun K hK => ?_ -- region 21
              simp only [go_sem, Nat.reduceAdd, Nat.reduceEqDiff, Nat.reduceLeDiff, true_and, List.length_map, len_row, one_row, A.enc_one, A.enc_len, bs_size, app_get, app_get0, A.enc_get43, opL_wrap p]
              refine hK _ _ fun env' hw => ?_
              simp only [setL_cons, setL_nil, List.set_cons_zero, List.set_cons_succ] at hw
              refine hK25 _ _ (AW.weaken hw ?_); clear hw; try clear hK25 K25
              refine AW.seq_k fun K27 hK27 => ?_
              refine AW.regl false [79] (by rfl) fun K28 hK28 => ?_ -- region 22
              simp only [go_sem, Nat.reduceAdd, Nat.reduceEqDiff, Nat.reduceLeDiff, true_and, List.length_map, len_row, one_row, A.enc_one, A.enc_len, bs_size, app_get, app_get0, A.enc_get43]
              refine hK28 _ _ ?_; try clear hK28 K28
              conv => enter [5]; simp only [setL_cons, setL_nil, List.set_cons_zero, List.set_cons_succ]
              refine AW.cond rfl (fun hc79 => ?_) (fun hc79 => ?_)
              · skip
                exfalso
                have h := hc79
                simp at h
                omega
              · skip
                refine AW.skip ?_
                refine hK27 _ _ ?_; try clear hK27 K27
                obtain ⟨T86, hT86⟩ : ∃ z, z = YA ++ ([32] : List UInt8) := ⟨_, rfl⟩
                have hL86 : T86.length = YA.length + ([32] : List UInt8).length := by rw [hT86, List.length_append]
                try simp only [List.length_cons, List.length_nil] at hL86
                have hA86 : aBin prog .add 9 (.val (.string (bs YA))) (.val (.string ⟨#[32]⟩)) = some (.val (.string (bs T86))) := by rw [hT86]; exact addS _ (a := YA) (b := ([32] : List UInt8)) (show _ ≤ 140737488355328 by (try simp only [List.length_cons, List.length_nil]); omega)
                obtain ⟨T92, hT92⟩ : ∃ z, z = T86 ++ (opT p) := ⟨_, rfl⟩
                have hL92 : T92.length = T86.length + (opT p).length := by rw [hT92, List.length_append]
                have hA92 : aBin prog .add 9 (.val (.string (bs T86))) (.val (.string (bs (opT p)))) = some (.val (.string (bs T92))) := by rw [hT92]; exact addS _ (a := T86) (b := (opT p)) (show _ ≤ 140737488355328 by (try simp only [List.length_cons, List.length_nil]); omega)
                obtain ⟨T93, hT93⟩ : ∃ z, z = T92 ++ ([32] : List UInt8) := ⟨_, rfl⟩
                have hL93 : T93.length = T92.length + ([32] : List UInt8).length := by rw [hT93, List.length_append]
                try simp only [List.length_cons, List.length_nil] at hL93
                have hA93 : aBin prog .add 9 (.val (.string (bs T92))) (.val (.string ⟨#[32]⟩)) = some (.val (.string (bs T93))) := by rw [hT93]; exact addS _ (a := T92) (b := ([32] : List UInt8)) (show _ ≤ 140737488355328 by (try simp only [List.length_cons, List.length_nil]); omega)
                obtain ⟨T100, hT100⟩ : ∃ z, z = T93 ++ YB := ⟨_, rfl⟩
                have hL100 : T100.length = T93.length + YB.length := by rw [hT100, List.length_append]
                have hA100 : aBin prog .add 9 (.val (.string (bs T93))) (.val (.string (bs YB))) = some (.val (.string (bs T100))) := by rw [hT100]; exact addS _ (a := T93) (b := YB) (show _ ≤ 140737488355328 by (try simp only [List.length_cons, List.length_nil]); omega)
                refine AW.regdl mixed false [2] (by kernel_rfl) (by rfl) fun K29 hK29 => ?_ -- region 24
                simp only [go_sem, Nat.reduceAdd, Nat.reduceEqDiff, Nat.reduceLeDiff, true_and, List.length_map, len_row, one_row, A.enc_one, A.enc_len, bs_size, app_get, app_get0, A.enc_get43, at_sl0, at_sl1, txtA, txt_at h0p h1p, hA86, hA92, hA93, hA100]
                refine qC.of en24 (hiA.on _).here (by rfl) ?_
                simp only [go_sem, Nat.reduceAdd, Nat.reduceEqDiff, Nat.reduceLeDiff, true_and, List.length_map, len_row, one_row, A.enc_one, A.enc_len, bs_size, app_get, app_get0, A.enc_get43, at_sl0, at_sl1, txtA, txt_at h0p h1p, hA86, hA92, hA93, hA100]
                refine qC.of en27 (texts_calls.on _).here (by rfl) ?_
                simp only [go_sem, Nat.reduceAdd, Nat.reduceEqDiff, Nat.reduceLeDiff, true_and, List.length_map, len_row, one_row, A.enc_one, A.enc_len, bs_size, app_get, app_get0, A.enc_get43, at_sl0, at_sl1, txtA, txt_at h0p h1p, hA86, hA92, hA93, hA100]
                refine qC.of en24 (hiB.on _).here (by rfl) ?_
                simp only [go_sem, Nat.reduceAdd, Nat.reduceEqDiff, Nat.reduceLeDiff, true_and, List.length_map, len_row, one_row, A.enc_one, A.enc_len, bs_size, app_get, app_get0, A.enc_get43, at_sl0, at_sl1, txtA, txt_at h0p h1p, hA86, hA92, hA93, hA100]
                refine hK29 _ ?_; try clear hK29 K29
                conv => enter [5]; simp only [setL_cons, setL_nil, List.set_cons_zero, List.set_cons_succ]
                refine AW.ret ⟨.inr rfl, _, rfl, by simp, ?_⟩ -- return 8
                rw [show YA ++ ([32] ++ (opT p ++ [32]) ++ YB) = T100 by rw [hT100, hT93, hT92, hT86]; simp]
                exact .keep rfl
            · skip
              have h01 : ¬ opL p = 0 ∧ ¬ opL p = 1 := by have h := hc74; simp at h; exact h
              have hiB := arg_at hi3 (show rightA p = opL p + 1 by simp [rightA, h01.1, h01.2])
              refine AW.skip ?_
              refine hK25 _ _ ?_; try clear hK25 K25
              refine AW.seq_k fun K30 hK30 => ?_
              refine AW.regl false [79] (by rfl) fun K31 hK31 => ?_ -- region 22
              simp only [go_sem, Nat.reduceAdd, Nat.reduceEqDiff, Nat.reduceLeDiff, true_and, List.length_map, len_row, one_row, A.enc_one, A.enc_len, bs_size, app_get, app_get0, A.enc_get43]
              refine hK31 _ _ ?_; try clear hK31 K31
              conv => enter [5]; simp only [setL_cons, setL_nil, List.set_cons_zero, List.set_cons_succ]
              refine AW.cond rfl (fun hc79 => ?_) (fun hc79 => ?_)
              · skip
                have h4 : opL p = 4 := by have h := hc79; simp at h; exact h
                have hiA := arg_at hi2 (show leftA p = 5 by simp [leftA, h4])
                refine AW.lastl false [5] (by rfl) fun K hK => ?_ -- region 23
                simp only [go_sem, Nat.reduceAdd, Nat.reduceEqDiff, Nat.reduceLeDiff, true_and, List.length_map, len_row, one_row, A.enc_one, A.enc_len, bs_size, app_get, app_get0, A.enc_get43]
                refine hK _ _ fun env' hw => ?_
                simp only [setL_cons, setL_nil, List.set_cons_zero, List.set_cons_succ] at hw
                refine hK30 _ _ (AW.weaken hw ?_); clear hw; try clear hK30 K30
                obtain ⟨T86, hT86⟩ : ∃ z, z = YA ++ ([32] : List UInt8) := ⟨_, rfl⟩
                have hL86 : T86.length = YA.length + ([32] : List UInt8).length := by rw [hT86, List.length_append]
                try simp only [List.length_cons, List.length_nil] at hL86
                have hA86 : aBin prog .add 9 (.val (.string (bs YA))) (.val (.string ⟨#[32]⟩)) = some (.val (.string (bs T86))) := by rw [hT86]; exact addS _ (a := YA) (b := ([32] : List UInt8)) (show _ ≤ 140737488355328 by (try simp only [List.length_cons, List.length_nil]); omega)
                obtain ⟨T92, hT92⟩ : ∃ z, z = T86 ++ (opT p) := ⟨_, rfl⟩
                have hL92 : T92.length = T86.length + (opT p).length := by rw [hT92, List.length_append]
                have hA92 : aBin prog .add 9 (.val (.string (bs T86))) (.val (.string (bs (opT p)))) = some (.val (.string (bs T92))) := by rw [hT92]; exact addS _ (a := T86) (b := (opT p)) (show _ ≤ 140737488355328 by (try simp only [List.length_cons, List.length_nil]); omega)
                obtain ⟨T93, hT93⟩ : ∃ z, z = T92 ++ ([32] : List UInt8) := ⟨_, rfl⟩
                have hL93 : T93.length = T92.length + ([32] : List UInt8).length := by rw [hT93, List.length_append]
                try simp only [List.length_cons, List.length_nil] at hL93
                have hA93 : aBin prog .add 9 (.val (.string (bs T92))) (.val (.string ⟨#[32]⟩)) = some (.val (.string (bs T93))) := by rw [hT93]; exact addS _ (a := T92) (b := ([32] : List UInt8)) (show _ ≤ 140737488355328 by (try simp only [List.length_cons, List.length_nil]); omega)
                obtain ⟨T100, hT100⟩ : ∃ z, z = T93 ++ YB := ⟨_, rfl⟩
                have hL100 : T100.length = T93.length + YB.length := by rw [hT100, List.length_append]
                have hA100 : aBin prog .add 9 (.val (.string (bs T93))) (.val (.string (bs YB))) = some (.val (.string (bs T100))) := by rw [hT100]; exact addS _ (a := T93) (b := YB) (show _ ≤ 140737488355328 by (try simp only [List.length_cons, List.length_nil]); omega)
                refine AW.regdl mixed false [2] (by kernel_rfl) (by rfl) fun K32 hK32 => ?_ -- region 24
                simp only [go_sem, Nat.reduceAdd, Nat.reduceEqDiff, Nat.reduceLeDiff, true_and, List.length_map, len_row, one_row, A.enc_one, A.enc_len, bs_size, app_get, app_get0, A.enc_get43, at_sl0, at_sl1, txtA, txt_at h0p h1p, hA86, hA92, hA93, hA100]
                refine qC.of en24 (hiA.on _).here (by rfl) ?_
                simp only [go_sem, Nat.reduceAdd, Nat.reduceEqDiff, Nat.reduceLeDiff, true_and, List.length_map, len_row, one_row, A.enc_one, A.enc_len, bs_size, app_get, app_get0, A.enc_get43, at_sl0, at_sl1, txtA, txt_at h0p h1p, hA86, hA92, hA93, hA100]
                refine qC.of en27 (texts_calls.on _).here (by rfl) ?_
                simp only [go_sem, Nat.reduceAdd, Nat.reduceEqDiff, Nat.reduceLeDiff, true_and, List.length_map, len_row, one_row, A.enc_one, A.enc_len, bs_size, app_get, app_get0, A.enc_get43, at_sl0, at_sl1, txtA, txt_at h0p h1p, hA86, hA92, hA93, hA100]
                refine qC.of en24 (hiB.on _).here (by rfl) ?_
                simp only [go_sem, Nat.reduceAdd, Nat.reduceEqDiff, Nat.reduceLeDiff, true_and, List.length_map, len_row, one_row, A.enc_one, A.enc_len, bs_size, app_get, app_get0, A.enc_get43, at_sl0, at_sl1, txtA, txt_at h0p h1p, hA86, hA92, hA93, hA100]
                refine hK32 _ ?_; try clear hK32 K32
                conv => enter [5]; simp only [setL_cons, setL_nil, List.set_cons_zero, List.set_cons_succ]
                refine AW.ret ⟨.inr rfl, _, rfl, by simp, ?_⟩ -- return 9
                rw [show YA ++ ([32] ++ (opT p ++ [32]) ++ YB) = T100 by rw [hT100, hT93, hT92, hT86]; simp]
                exact .keep rfl
              · skip
                have h4 : ¬ opL p = 4 := by have h := hc79; simp at h; exact h
                have hiA := arg_at hi2 (show leftA p = opL p by simp [leftA, h01.1, h01.2, h4])
                refine AW.skip ?_
                refine hK30 _ _ ?_; try clear hK30 K30
                obtain ⟨T86, hT86⟩ : ∃ z, z = YA ++ ([32] : List UInt8) := ⟨_, rfl⟩
                have hL86 : T86.length = YA.length + ([32] : List UInt8).length := by rw [hT86, List.length_append]
                try simp only [List.length_cons, List.length_nil] at hL86
                have hA86 : aBin prog .add 9 (.val (.string (bs YA))) (.val (.string ⟨#[32]⟩)) = some (.val (.string (bs T86))) := by rw [hT86]; exact addS _ (a := YA) (b := ([32] : List UInt8)) (show _ ≤ 140737488355328 by (try simp only [List.length_cons, List.length_nil]); omega)
                obtain ⟨T92, hT92⟩ : ∃ z, z = T86 ++ (opT p) := ⟨_, rfl⟩
                have hL92 : T92.length = T86.length + (opT p).length := by rw [hT92, List.length_append]
                have hA92 : aBin prog .add 9 (.val (.string (bs T86))) (.val (.string (bs (opT p)))) = some (.val (.string (bs T92))) := by rw [hT92]; exact addS _ (a := T86) (b := (opT p)) (show _ ≤ 140737488355328 by (try simp only [List.length_cons, List.length_nil]); omega)
                obtain ⟨T93, hT93⟩ : ∃ z, z = T92 ++ ([32] : List UInt8) := ⟨_, rfl⟩
                have hL93 : T93.length = T92.length + ([32] : List UInt8).length := by rw [hT93, List.length_append]
                try simp only [List.length_cons, List.length_nil] at hL93
                have hA93 : aBin prog .add 9 (.val (.string (bs T92))) (.val (.string ⟨#[32]⟩)) = some (.val (.string (bs T93))) := by rw [hT93]; exact addS _ (a := T92) (b := ([32] : List UInt8)) (show _ ≤ 140737488355328 by (try simp only [List.length_cons, List.length_nil]); omega)
                obtain ⟨T100, hT100⟩ : ∃ z, z = T93 ++ YB := ⟨_, rfl⟩
                have hL100 : T100.length = T93.length + YB.length := by rw [hT100, List.length_append]
                have hA100 : aBin prog .add 9 (.val (.string (bs T93))) (.val (.string (bs YB))) = some (.val (.string (bs T100))) := by rw [hT100]; exact addS _ (a := T93) (b := YB) (show _ ≤ 140737488355328 by (try simp only [List.length_cons, List.length_nil]); omega)
                refine AW.regdl mixed false [2] (by kernel_rfl) (by rfl) fun K33 hK33 => ?_ -- region 24
                simp only [go_sem, Nat.reduceAdd, Nat.reduceEqDiff, Nat.reduceLeDiff, true_and, List.length_map, len_row, one_row, A.enc_one, A.enc_len, bs_size, app_get, app_get0, A.enc_get43, at_sl0, at_sl1, txtA, txt_at h0p h1p, hA86, hA92, hA93, hA100]
                refine qC.of en24 (hiA.on _).here (by rfl) ?_
                simp only [go_sem, Nat.reduceAdd, Nat.reduceEqDiff, Nat.reduceLeDiff, true_and, List.length_map, len_row, one_row, A.enc_one, A.enc_len, bs_size, app_get, app_get0, A.enc_get43, at_sl0, at_sl1, txtA, txt_at h0p h1p, hA86, hA92, hA93, hA100]
                refine qC.of en27 (texts_calls.on _).here (by rfl) ?_
                simp only [go_sem, Nat.reduceAdd, Nat.reduceEqDiff, Nat.reduceLeDiff, true_and, List.length_map, len_row, one_row, A.enc_one, A.enc_len, bs_size, app_get, app_get0, A.enc_get43, at_sl0, at_sl1, txtA, txt_at h0p h1p, hA86, hA92, hA93, hA100]
                refine qC.of en24 (hiB.on _).here (by rfl) ?_
                simp only [go_sem, Nat.reduceAdd, Nat.reduceEqDiff, Nat.reduceLeDiff, true_and, List.length_map, len_row, one_row, A.enc_one, A.enc_len, bs_size, app_get, app_get0, A.enc_get43, at_sl0, at_sl1, txtA, txt_at h0p h1p, hA86, hA92, hA93, hA100]
                refine hK33 _ ?_; try clear hK33 K33
                conv => enter [5]; simp only [setL_cons, setL_nil, List.set_cons_zero, List.set_cons_succ]
                refine AW.ret ⟨.inr rfl, _, rfl, by simp, ?_⟩ -- return 10
                rw [show YA ++ ([32] ++ (opT p ++ [32]) ++ YB) = T100 by rw [hT100, hT93, hT92, hT86]; simp]
                exact .keep rfl
          · skip
            refine AW.regl false [101] (by rfl) fun K34 hK34 => ?_ -- region 25
            simp only [go_sem, Nat.reduceAdd, Nat.reduceEqDiff, Nat.reduceLeDiff, true_and, List.length_map, len_row, one_row, A.enc_one, A.enc_len, bs_size, app_get, app_get0, A.enc_get43]
            refine hK34 _ _ ?_; try clear hK34 K34
            conv => enter [5]; simp only [setL_cons, setL_nil, List.set_cons_zero, List.set_cons_succ]
            refine AW.cond rfl (fun hc101 => ?_) (fun hc101 => ?_)
            · skip
              obtain rfl : k = 5 := by simpa using hc101
              have hl1 : l.length = 3 := by simp at h1; omega
              obtain ⟨x, y, z, rfl⟩ := len3 hl1
              rw [show rowAV 5 nl ([x, y, z].map E.enc) = .sl 5 [x.enc, y.enc, z.enc] from rfl]
              have hq : tx (.mk 5 p n s nl [x, y, z]) = [105, 102, 32] ++ (tx x ++ ([32, 116, 104, 101, 110, 32] ++ (tx y ++ ([32, 101, 108, 115, 101, 32] ++ tx z)))) := by rw [tx_mk]; rfl
              rw [hq] at hf ⊢
              simp only [List.length_append, List.length_cons, List.length_nil] at hf
              obtain ⟨XA, hXA⟩ : ∃ w, w = tx x := ⟨_, rfl⟩
              obtain ⟨XB, hXB⟩ : ∃ w, w = tx y := ⟨_, rfl⟩
              obtain ⟨XC, hXC⟩ : ∃ w, w = tx z := ⟨_, rfl⟩
              have ihx := ih x (by simp)
              have ihy := ih y (by simp)
              have ihz := ih z (by simp)
              rw [← hXA] at hf ihx ⊢
              rw [← hXB] at hf ihy ⊢
              rw [← hXC] at hf ihz ⊢
              obtain ⟨T108, hT108⟩ : ∃ z, z = ([105, 102, 32] : List UInt8) ++ XA := ⟨_, rfl⟩
              have hL108 : T108.length = ([105, 102, 32] : List UInt8).length + XA.length := by rw [hT108, List.length_append]
              try simp only [List.length_cons, List.length_nil] at hL108
              have hA108 : aBin prog .add 9 (.val (.string ⟨#[105, 102, 32]⟩)) (.val (.string (bs XA))) = some (.val (.string (bs T108))) := by rw [hT108]; exact addS _ (a := ([105, 102, 32] : List UInt8)) (b := XA) (show _ ≤ 140737488355328 by (try simp only [List.length_cons, List.length_nil]); omega)
              obtain ⟨T109, hT109⟩ : ∃ z, z = T108 ++ ([32, 116, 104, 101, 110, 32] : List UInt8) := ⟨_, rfl⟩
              have hL109 : T109.length = T108.length + ([32, 116, 104, 101, 110, 32] : List UInt8).length := by rw [hT109, List.length_append]
              try simp only [List.length_cons, List.length_nil] at hL109
              have hA109 : aBin prog .add 9 (.val (.string (bs T108))) (.val (.string ⟨#[32, 116, 104, 101, 110, 32]⟩)) = some (.val (.string (bs T109))) := by rw [hT109]; exact addS _ (a := T108) (b := ([32, 116, 104, 101, 110, 32] : List UInt8)) (show _ ≤ 140737488355328 by (try simp only [List.length_cons, List.length_nil]); omega)
              obtain ⟨T115, hT115⟩ : ∃ z, z = T109 ++ XB := ⟨_, rfl⟩
              have hL115 : T115.length = T109.length + XB.length := by rw [hT115, List.length_append]
              have hA115 : aBin prog .add 9 (.val (.string (bs T109))) (.val (.string (bs XB))) = some (.val (.string (bs T115))) := by rw [hT115]; exact addS _ (a := T109) (b := XB) (show _ ≤ 140737488355328 by (try simp only [List.length_cons, List.length_nil]); omega)
              obtain ⟨T116, hT116⟩ : ∃ z, z = T115 ++ ([32, 101, 108, 115, 101, 32] : List UInt8) := ⟨_, rfl⟩
              have hL116 : T116.length = T115.length + ([32, 101, 108, 115, 101, 32] : List UInt8).length := by rw [hT116, List.length_append]
              try simp only [List.length_cons, List.length_nil] at hL116
              have hA116 : aBin prog .add 9 (.val (.string (bs T115))) (.val (.string ⟨#[32, 101, 108, 115, 101, 32]⟩)) = some (.val (.string (bs T116))) := by rw [hT116]; exact addS _ (a := T115) (b := ([32, 101, 108, 115, 101, 32] : List UInt8)) (show _ ≤ 140737488355328 by (try simp only [List.length_cons, List.length_nil]); omega)
              obtain ⟨T122, hT122⟩ : ∃ z, z = T116 ++ XC := ⟨_, rfl⟩
              have hL122 : T122.length = T116.length + XC.length := by rw [hT122, List.length_append]
              have hA122 : aBin prog .add 9 (.val (.string (bs T116))) (.val (.string (bs XC))) = some (.val (.string (bs T122))) := by rw [hT122]; exact addS _ (a := T116) (b := XC) (show _ ≤ 140737488355328 by (try simp only [List.length_cons, List.length_nil]); omega)
              refine AW.regdl mixed false [2] (by kernel_rfl) (by rfl) fun K35 hK35 => ?_ -- region 26
              simp only [go_sem, Nat.reduceAdd, Nat.reduceEqDiff, Nat.reduceLeDiff, true_and, List.length_map, len_row, one_row, A.enc_one, A.enc_len, bs_size, app_get, app_get0, A.enc_get43, at_sl0, at_sl1, at_sl2, hA108, hA109, hA115, hA116, hA122]
              refine qC.of en11 (ihx.on _).here (by rfl) ?_
              simp only [go_sem, Nat.reduceAdd, Nat.reduceEqDiff, Nat.reduceLeDiff, true_and, List.length_map, len_row, one_row, A.enc_one, A.enc_len, bs_size, app_get, app_get0, A.enc_get43, at_sl0, at_sl1, at_sl2, hA108, hA109, hA115, hA116, hA122]
              refine qC.of en11 (ihy.on _).here (by rfl) ?_
              simp only [go_sem, Nat.reduceAdd, Nat.reduceEqDiff, Nat.reduceLeDiff, true_and, List.length_map, len_row, one_row, A.enc_one, A.enc_len, bs_size, app_get, app_get0, A.enc_get43, at_sl0, at_sl1, at_sl2, hA108, hA109, hA115, hA116, hA122]
              refine qC.of en11 (ihz.on _).here (by rfl) ?_
              simp only [go_sem, Nat.reduceAdd, Nat.reduceEqDiff, Nat.reduceLeDiff, true_and, List.length_map, len_row, one_row, A.enc_one, A.enc_len, bs_size, app_get, app_get0, A.enc_get43, at_sl0, at_sl1, at_sl2, hA108, hA109, hA115, hA116, hA122]
              refine hK35 _ ?_; try clear hK35 K35
              conv => enter [5]; simp only [setL_cons, setL_nil, List.set_cons_zero, List.set_cons_succ]
              refine AW.ret ⟨.inr rfl, _, rfl, by simp, ?_⟩ -- return 11
              rw [show [105, 102, 32] ++ (XA ++ ([32, 116, 104, 101, 110, 32] ++ (XB ++ ([32, 101, 108, 115, 101, 32] ++ XC)))) = T122 by rw [hT122, hT116, hT115, hT109, hT108]; simp]
              exact .keep rfl
            · skip
              have hk6 : k = 6 := by
                simp at hc11 hc16 hc21 hc25 hc61 hc101
                by_cases h6 : k = 6
                · exact h6
                · simp [hc11, hc16, hc21, hc25, hc61, hc101, h6] at h1
              subst hk6
              have hq : tx (.mk 6 p n s nl l) = s.data.toList ++ ([40] ++ (sepC.intercalate (l.map tx) ++ [41])) := by rw [tx_mk]; rfl
              rw [hq] at hf ⊢
              simp only [List.length_append, List.length_cons, List.length_nil] at hf
              refine AW.skip ?_
              refine hK2 _ _ ?_; try clear hK2 K2
              obtain ⟨T125, hT125⟩ : ∃ z, z = (s).data.toList ++ ([40] : List UInt8) := ⟨_, rfl⟩
              have hL125 : T125.length = (s).data.toList.length + ([40] : List UInt8).length := by rw [hT125, List.length_append]
              try simp only [List.length_cons, List.length_nil] at hL125
              have hA125 : aBin prog .add 9 (.val (.string s)) (.val (.string ⟨#[40]⟩)) = some (.val (.string (bs T125))) := by rw [hT125]; exact addS _ (a := (s).data.toList) (b := ([40] : List UInt8)) (show _ ≤ 140737488355328 by (try simp only [List.length_cons, List.length_nil]); omega)
              refine AW.regl false [7] (by rfl) fun K36 hK36 => ?_ -- region 27
              simp only [go_sem, Nat.reduceAdd, Nat.reduceEqDiff, Nat.reduceLeDiff, true_and, List.length_map, len_row, one_row, A.enc_one, A.enc_len, bs_size, app_get, app_get0, A.enc_get43, hA125]
              refine hK36 _ _ ?_; try clear hK36 K36
              conv => enter [5]; simp only [setL_cons, setL_nil, List.set_cons_zero, List.set_cons_succ]
              refine AW.seq_k fun K37 hK37 => ?_
              refine AW.regl false [8] (by rfl) fun K38 hK38 => ?_ -- region 28
              simp only [go_sem, Nat.reduceAdd, Nat.reduceEqDiff, Nat.reduceLeDiff, true_and, List.length_map, len_row, one_row, A.enc_one, A.enc_len, bs_size, app_get, app_get0, A.enc_get43]
              refine hK38 _ _ ?_; try clear hK38 K38
              conv => enter [5]; simp only [setL_cons, setL_nil, List.set_cons_zero, List.set_cons_succ]
              refine AW.block ?_
              refine AW.loop_wk (α := Nat) (fun i => [.any, (.ref σ.length 0), .any, .any, .any, .any, .any, (.val (.string (bs (s.data.toList ++ [40] ++ sepC.intercalate ((l.map tx).take i))))), (.val (.int .i64 ((i : Nat) : Int))), .any, .any, .any, .any, .any, .any, .any, .any, .any, .any, .any, .any, .any, .any, .any, .any, .any, .any, .any, .any, .any, .any, .any, .any, .any, .any, .any, .any, .any, .any, .any, .any, .any, .any, .any, .any, .any, .any, .any, .any, .any, .any, .any, .any, .any, .any, .any, .any, .any, .any, .any, .any, .any, .any, .any, .any, .any, .any, .any, .any, .any, .any, .any, .any, .any, .any, .any, .any, .any, .any, .any, .any, .any, .any, .any, .any, .any, .any, .any, .any, .any, .any, .any, .any, .any, .any, .any, .any, .any, .any, .any, .any, .any, .any, .any, .any, .any, .any, .any, .any, .any, .any, .any, .any, .any, .any, .any, .any, .any, .any, .any, .any, .any, .any, .any, .any, .any, .any, .any, .any, .any, .any, .any, .any, .any, .any, .any, .any, .any, .any, .any, .any, .any, .any, .any, .any, .any, .any]) (fun i => σ ++ [.cells [.val (.int .i64 6), .val (.int .i64 p), .val (.int .i64 n), .val (.string s), rowAV 5 nl (l.map E.enc)]]) (fun i => l.length - i) (fun i => i ≤ l.length) 0 ?_ ?_
              · exact ⟨Nat.zero_le _, by simp [Wk, hT125, inter_nil], rfl⟩
              · intro i hi
                refine AW.seq_k fun K39 hK39 => ?_
                refine AW.regl false [130] (by rfl) fun K40 hK40 => ?_ -- region 29
                simp only [go_sem, Nat.reduceAdd, Nat.reduceEqDiff, Nat.reduceLeDiff, true_and, List.length_map, len_row, one_row, A.enc_one, A.enc_len, bs_size, app_get, app_get0, A.enc_get43]
                refine hK40 _ _ ?_; try clear hK40 K40
                conv => enter [5]; simp only [setL_cons, setL_nil, List.set_cons_zero, List.set_cons_succ]
                refine AW.cond rfl (fun hc130 => ?_) (fun hc130 => ?_)
                · skip
                  have hi1 : i < l.length := by simpa using hc130
                  have hx : (l.map E.enc)[i]? = some (E.enc (l[i])) := by rw [List.getElem?_map, List.getElem?_eq_getElem hi1]; rfl
                  have hs2 : sepC.length = 2 := rfl
                  have hit := inter_take_le sepC (l.map tx) (i + 1)
                  have hil : i < (l.map tx).length := by simpa using hi1
                  have hgi : (l.map tx)[i] = tx l[i] := by simp
                  obtain ⟨XI, hXI⟩ : ∃ w, w = tx l[i] := ⟨_, rfl⟩
                  have ihi := ih _ (List.getElem_mem hi1)
                  rw [← hXI] at hgi ihi
                  obtain ⟨Z, hZ⟩ : ∃ w, w = s.data.toList ++ [40] ++ sepC.intercalate ((l.map tx).take i) := ⟨_, rfl⟩
                  have hZl : Z.length = s.data.toList.length + 1 + (sepC.intercalate ((l.map tx).take i)).length := by rw [hZ]; simp only [List.length_append, List.length_cons, List.length_nil]
                  rw [← hZ]
                  refine AW.skip ?_
                  refine hK39 _ _ ?_; try clear hK39 K39
                  refine AW.seq_k fun K41 hK41 => ?_
                  refine AW.block ?_
                  refine AW.seq_k fun K42 hK42 => ?_
                  refine AW.regl false [134] (by rfl) fun K43 hK43 => ?_ -- region 31
                  simp only [go_sem, Nat.reduceAdd, Nat.reduceEqDiff, Nat.reduceLeDiff, true_and, List.length_map, len_row, one_row, A.enc_one, A.enc_len, bs_size, app_get, app_get0, A.enc_get43]
                  refine hK43 _ _ ?_; try clear hK43 K43
                  conv => enter [5]; simp only [setL_cons, setL_nil, List.set_cons_zero, List.set_cons_succ]
                  refine AW.cond rfl (fun hc134 => ?_) (fun hc134 => ?_)
                  · skip
                    have h0 : 0 < i := by simpa using hc134
                    have hst := inter_step sepC hil h0
                    rw [hgi] at hst
                    rw [hst] at hit
                    simp only [List.length_append] at hit
                    obtain ⟨T136, hT136⟩ : ∃ z, z = Z ++ ([44, 32] : List UInt8) := ⟨_, rfl⟩
                    have hL136 : T136.length = Z.length + ([44, 32] : List UInt8).length := by rw [hT136, List.length_append]
                    try simp only [List.length_cons, List.length_nil] at hL136
                    have hA136 : aBin prog .add 9 (.val (.string (bs Z))) (.val (.string ⟨#[44, 32]⟩)) = some (.val (.string (bs T136))) := by rw [hT136]; exact addS _ (a := Z) (b := ([44, 32] : List UInt8)) (show _ ≤ 140737488355328 by (try simp only [List.length_cons, List.length_nil]); omega)
                    refine AW.lastl false [7] (by rfl) fun K hK => ?_ -- region 32
                    simp only [go_sem, Nat.reduceAdd, Nat.reduceEqDiff, Nat.reduceLeDiff, true_and, List.length_map, len_row, one_row, A.enc_one, A.enc_len, bs_size, app_get, app_get0, A.enc_get43, hA136]
                    refine hK _ _ fun env' hw => ?_
                    simp only [setL_cons, setL_nil, List.set_cons_zero, List.set_cons_succ] at hw
                    refine hK42 _ _ (AW.weaken hw ?_); clear hw; try clear hK42 K42
                    obtain ⟨T144, hT144⟩ : ∃ z, z = T136 ++ XI := ⟨_, rfl⟩
                    have hL144 : T144.length = T136.length + XI.length := by rw [hT144, List.length_append]
                    have hA144 : aBin prog .add 9 (.val (.string (bs T136))) (.val (.string (bs XI))) = some (.val (.string (bs T144))) := by rw [hT144]; exact addS _ (a := T136) (b := XI) (show _ ≤ 140737488355328 by (try simp only [List.length_cons, List.length_nil]); omega)
                    refine AW.lastl false [7] (by rfl) fun K hK => ?_ -- region 33
                    simp only [go_sem, Nat.reduceAdd, Nat.reduceEqDiff, Nat.reduceLeDiff, true_and, List.length_map, len_row, one_row, A.enc_one, A.enc_len, bs_size, app_get, app_get0, A.enc_get43, at_row hx, hA144]
                    refine sC.of en11 (ihi.on _).here (by rfl) ?_
                    simp only [go_sem, Nat.reduceAdd, Nat.reduceEqDiff, Nat.reduceLeDiff, true_and, List.length_map, len_row, one_row, A.enc_one, A.enc_len, bs_size, app_get, app_get0, A.enc_get43, at_row hx, hA144]
                    refine hK _ _ fun env' hw => ?_
                    simp only [setL_cons, setL_nil, List.set_cons_zero, List.set_cons_succ] at hw
                    refine hK41 _ _ (AW.weaken hw ?_); clear hw; try clear hK41 K41
                    refine AW.lastl false [8] (by rfl) fun K hK => ?_ -- region 30
                    simp only [go_sem, Nat.reduceAdd, Nat.reduceEqDiff, Nat.reduceLeDiff, true_and, List.length_map, len_row, one_row, A.enc_one, A.enc_len, bs_size, app_get, app_get0, A.enc_get43]
                    refine hK _ _ fun env' hw => ?_
                    simp only [setL_cons, setL_nil, List.set_cons_zero, List.set_cons_succ] at hw
                    refine ⟨i + 1, by omega, by omega, ?_, rfl⟩
                    refine hw.trans ?_
                    rw [hst]
                    simp [Wk, wrap_succ hi1 hl, hT144, hZ, sepC]
                    try (rw [hT136, hZ]; simp [sepC])
                  · skip
                    have hi0 : i = 0 := by
                      have : ¬ 0 < i := by simpa using hc134
                      omega
                    have hst : sepC.intercalate ((l.map tx).take (i + 1)) = sepC.intercalate ((l.map tx).take i) ++ XI := by
                      cases hi0
                      rw [List.take_zero, inter_nil, List.nil_append, ← hgi]
                      exact inter_first sepC hil
                    rw [hst] at hit
                    simp only [List.length_append] at hit
                    refine AW.skip ?_
                    refine hK42 _ _ ?_; try clear hK42 K42
                    obtain ⟨T144, hT144⟩ : ∃ z, z = Z ++ XI := ⟨_, rfl⟩
                    have hL144 : T144.length = Z.length + XI.length := by rw [hT144, List.length_append]
                    have hA144 : aBin prog .add 9 (.val (.string (bs Z))) (.val (.string (bs XI))) = some (.val (.string (bs T144))) := by rw [hT144]; exact addS _ (a := Z) (b := XI) (show _ ≤ 140737488355328 by (try simp only [List.length_cons, List.length_nil]); omega)
                    refine AW.lastl false [7] (by rfl) fun K hK => ?_ -- region 33
                    simp only [go_sem, Nat.reduceAdd, Nat.reduceEqDiff, Nat.reduceLeDiff, true_and, List.length_map, len_row, one_row, A.enc_one, A.enc_len, bs_size, app_get, app_get0, A.enc_get43, at_row hx, hA144]
                    refine sC.of en11 (ihi.on _).here (by rfl) ?_
                    simp only [go_sem, Nat.reduceAdd, Nat.reduceEqDiff, Nat.reduceLeDiff, true_and, List.length_map, len_row, one_row, A.enc_one, A.enc_len, bs_size, app_get, app_get0, A.enc_get43, at_row hx, hA144]
                    refine hK _ _ fun env' hw => ?_
                    simp only [setL_cons, setL_nil, List.set_cons_zero, List.set_cons_succ] at hw
                    refine hK41 _ _ (AW.weaken hw ?_); clear hw; try clear hK41 K41
                    refine AW.lastl false [8] (by rfl) fun K hK => ?_ -- region 30
                    simp only [go_sem, Nat.reduceAdd, Nat.reduceEqDiff, Nat.reduceLeDiff, true_and, List.length_map, len_row, one_row, A.enc_one, A.enc_len, bs_size, app_get, app_get0, A.enc_get43]
                    refine hK _ _ fun env' hw => ?_
                    simp only [setL_cons, setL_nil, List.set_cons_zero, List.set_cons_succ] at hw
                    refine ⟨i + 1, by omega, by omega, ?_, rfl⟩
                    refine hw.trans ?_
                    rw [hst]
                    simp [Wk, wrap_succ hi1 hl, hT144, hZ, sepC]
                    try (rw [hT136, hZ]; simp [sepC])
                · skip
                  have hi1 : i = l.length := by
                    have : ¬ i < l.length := by simpa using hc130
                    omega
                  rw [hi1, show (l.map tx).take l.length = l.map tx from List.take_of_length_le (by simp)]
                  obtain ⟨Z, hZ⟩ : ∃ w, w = s.data.toList ++ [40] ++ sepC.intercalate (l.map tx) := ⟨_, rfl⟩
                  have hZl : Z.length = s.data.toList.length + 1 + (sepC.intercalate (l.map tx)).length := by rw [hZ]; simp only [List.length_append, List.length_cons, List.length_nil]
                  rw [← hZ]
                  refine AW.exit ?_
                  refine hK37 _ _ ?_; try clear hK37 K37
                  obtain ⟨T146, hT146⟩ : ∃ z, z = Z ++ ([41] : List UInt8) := ⟨_, rfl⟩
                  have hL146 : T146.length = Z.length + ([41] : List UInt8).length := by rw [hT146, List.length_append]
                  try simp only [List.length_cons, List.length_nil] at hL146
                  have hA146 : aBin prog .add 9 (.val (.string (bs Z))) (.val (.string ⟨#[41]⟩)) = some (.val (.string (bs T146))) := by rw [hT146]; exact addS _ (a := Z) (b := ([41] : List UInt8)) (show _ ≤ 140737488355328 by (try simp only [List.length_cons, List.length_nil]); omega)
                  refine AW.regl false [2] (by rfl) fun K44 hK44 => ?_ -- region 34
                  simp only [go_sem, Nat.reduceAdd, Nat.reduceEqDiff, Nat.reduceLeDiff, true_and, List.length_map, len_row, one_row, A.enc_one, A.enc_len, bs_size, app_get, app_get0, A.enc_get43, hA146]
                  refine hK44 _ _ ?_; try clear hK44 K44
                  conv => enter [5]; simp only [setL_cons, setL_nil, List.set_cons_zero, List.set_cons_succ]
                  refine AW.ret ⟨.inr rfl, _, rfl, by simp, ?_⟩ -- return 12
                  try rw [hq]
                  rw [show s.data.toList ++ ([40] ++ (sepC.intercalate (l.map tx) ++ [41])) = T146 by rw [hT146, hZ]; simp]
                  exact .keep rfl
open A (E VarM EqM NodeM ProgM) in
theorem rexpr_calls : ∀ e : E, e.shape = true → (∀ d ∈ e.pre, rng d) → (tx e).length ≤ 100000000 → APure prog Γ 11 [E.enc e] (str (bs (tx e))) := by
  refine E.ind fun k p n s nl l ih hs hr hf => ?_
  simp only [E.shape, Bool.and_eq_true] at hs
  obtain ⟨hsl, h1⟩ := hs
  rw [A.shapeL_all, List.all_eq_true] at hsl
  have hrl : ∀ e ∈ l, ∀ d ∈ e.pre, rng d := fun e he d hd => hr d (by rw [E.pre]; exact List.mem_cons_of_mem _ (A.preL_mem he hd))
  refine rexpr_step k p n s nl l h1 (hr _ (by rw [E.pre]; exact List.mem_cons_self)) (fun e he => ?_) (fun e he => ih e he (hsl e he) (hrl e he) ?_) hf
  · have h2 := hsl e he
    cases e with
    | mk k2 p2 n2 s2 nl2 l2 =>
      refine ⟨k2, p2, n2, s2, nl2, l2, rfl, fun hk => ?_⟩
      subst hk
      simp [E.shape, A.single] at h2
      omega
  · exact Nat.le_trans (tx_sub h1 he) hf
end Pr
end Go.Proofs.Tryd
/-! Printing: function 20. -/
namespace Go.Proofs.Tryd
set_option linter.unusedSimpArgs false
set_option linter.unusedVariables false
open Go Go.Proofs.Ev
namespace Pr
variable {Γ : List (Nat × List AV)}
set_option maxRecDepth 100000 in
open A (E VarM EqM NodeM ProgM) in
theorem rvars_text (nl : Bool) (l : List VarM) (hr : A.varsR l = true) : APure prog Γ 20 [rowAV 2 nl (l.map VarM.enc)] (str (bs (varsT l))) := by
  refine APure.of func20 rfl fun σ => ?_
  simp only [ntmps20, List.length_cons, List.length_nil, Nat.reduceAdd, Nat.reduceSub, List.replicate_succ, List.replicate_zero, List.cons_append, List.nil_append]
  obtain ⟨hlen, hwr⟩ := varsR_mem hr
  have hl0 : l.length ≤ maxLen := by rw [maxLen_eq]; omega
  have hvl := varsT_le hr
  unfold varsT at hvl ⊢
  refine AW.regl false [2] (by rfl) fun K1 hK1 => ?_ -- region 0
  simp only [go_sem, Nat.reduceAdd, Nat.reduceEqDiff, Nat.reduceLeDiff, true_and, List.length_map, len_row, one_row, A.enc_one, A.enc_len, bs_size, app_get, app_get0, VarM.enc]
  refine hK1 _ _ ?_; try clear hK1 K1
  conv => enter [5]; simp only [setL_cons, setL_nil, List.set_cons_zero, List.set_cons_succ]
  refine AW.regl false [3] (by rfl) fun K2 hK2 => ?_ -- region 1
  simp only [go_sem, Nat.reduceAdd, Nat.reduceEqDiff, Nat.reduceLeDiff, true_and, List.length_map, len_row, one_row, A.enc_one, A.enc_len, bs_size, app_get, app_get0, VarM.enc]
  refine hK2 _ _ ?_; try clear hK2 K2
  conv => enter [5]; simp only [setL_cons, setL_nil, List.set_cons_zero, List.set_cons_succ]
  refine AW.seq_k fun K3 hK3 => ?_
  refine AW.regl false [4] (by rfl) fun K4 hK4 => ?_ -- region 2
  simp only [go_sem, Nat.reduceAdd, Nat.reduceEqDiff, Nat.reduceLeDiff, true_and, List.length_map, len_row, one_row, A.enc_one, A.enc_len, bs_size, app_get, app_get0, VarM.enc]
  refine hK4 _ _ ?_; try clear hK4 K4
  conv => enter [5]; simp only [setL_cons, setL_nil, List.set_cons_zero, List.set_cons_succ]
  refine AW.block ?_
  refine AW.loop_wk (α := Nat) (fun i => [(rowAV 2 nl (l.map VarM.enc)), .any, .any, (.val (.string (bs (sepS.intercalate ((l.map varT).take i))))), (.val (.int .i64 ((i : Nat) : Int))), .any, .any, .any, .any, .any, .any, .any, .any, .any, .any, .any, .any, .any, .any, .any, .any, .any, .any, .any, .any, .any, .any, .any, .any, .any, .any, .any]) (fun i => σ) (fun i => l.length - i) (fun i => i ≤ l.length) 0 ?_ ?_
  · exact ⟨Nat.zero_le _, by simp [Wk, bs, inter_nil], rfl⟩
  · intro i hi
    refine AW.seq_k fun K5 hK5 => ?_
    refine AW.regl false [8] (by rfl) fun K6 hK6 => ?_ -- region 3
    simp only [go_sem, Nat.reduceAdd, Nat.reduceEqDiff, Nat.reduceLeDiff, true_and, List.length_map, len_row, one_row, A.enc_one, A.enc_len, bs_size, app_get, app_get0, VarM.enc]
    refine hK6 _ _ ?_; try clear hK6 K6
    conv => enter [5]; simp only [setL_cons, setL_nil, List.set_cons_zero, List.set_cons_succ]
    refine AW.cond rfl (fun hc8 => ?_) (fun hc8 => ?_)
    · skip
      have hi1 : i < l.length := by simpa using hc8
      have hx : (l.map VarM.enc)[i]? = some (.agg [.val (.string ((l[i]).name)), .val (.int .i64 ((l[i]).type))]) := by rw [List.getElem?_map, List.getElem?_eq_getElem hi1]; rfl
      obtain ⟨h60, hty0, hty1⟩ := var_ok (hwr _ (List.getElem_mem hi1))
      have hn60 : l[i].name.data.toList.length ≤ 60 := h60
      have hty : (tyT l[i].type).length ≤ 4 := by unfold tyT; split <;> decide
      have hty2 : (tyT2 l[i].type).length ≤ 6 := by unfold tyT2; rw [List.length_append]; simp only [List.length_cons, List.length_nil]; omega
      have hs2 : sepS.length = 2 := rfl
      have hil : i < (l.map varT).length := by simpa using hi1
      have hit := inter_take_le sepS (l.map varT) i
      have hgi : (l.map varT)[i] = varT l[i] := by simp
      obtain ⟨Z, hZ⟩ : ∃ w, w = sepS.intercalate ((l.map varT).take i) := ⟨_, rfl⟩
      rw [← hZ] at hit
      rw [← hZ]
      refine AW.skip ?_
      refine hK5 _ _ ?_; try clear hK5 K5
      refine AW.seq_k fun K7 hK7 => ?_
      refine AW.block ?_
      refine AW.seq_k fun K8 hK8 => ?_
      refine AW.regl false [12] (by rfl) fun K9 hK9 => ?_ -- region 5
      simp only [go_sem, Nat.reduceAdd, Nat.reduceEqDiff, Nat.reduceLeDiff, true_and, List.length_map, len_row, one_row, A.enc_one, A.enc_len, bs_size, app_get, app_get0, VarM.enc]
      refine hK9 _ _ ?_; try clear hK9 K9
      conv => enter [5]; simp only [setL_cons, setL_nil, List.set_cons_zero, List.set_cons_succ]
      refine AW.cond rfl (fun hc12 => ?_) (fun hc12 => ?_)
      · skip
        have h0 : 0 < i := by simpa using hc12
        have hst := inter_step sepS hil h0
        rw [hgi] at hst
        obtain ⟨T14, hT14⟩ : ∃ z, z = Z ++ ([59, 32] : List UInt8) := ⟨_, rfl⟩
        have hL14 : T14.length = Z.length + ([59, 32] : List UInt8).length := by rw [hT14, List.length_append]
        try simp only [List.length_cons, List.length_nil] at hL14
        have hA14 : aBin prog .add 9 (.val (.string (bs Z))) (.val (.string ⟨#[59, 32]⟩)) = some (.val (.string (bs T14))) := by rw [hT14]; exact addS _ (a := Z) (b := ([59, 32] : List UInt8)) (show _ ≤ 140737488355328 by (try simp only [List.length_cons, List.length_nil]); omega)
        refine AW.lastl false [3] (by rfl) fun K hK => ?_ -- region 6
        simp only [go_sem, Nat.reduceAdd, Nat.reduceEqDiff, Nat.reduceLeDiff, true_and, List.length_map, len_row, one_row, A.enc_one, A.enc_len, bs_size, app_get, app_get0, VarM.enc, hA14]
        refine hK _ _ fun env' hw => ?_
        simp only [setL_cons, setL_nil, List.set_cons_zero, List.set_cons_succ] at hw
        refine hK8 _ _ (AW.weaken hw ?_); clear hw; try clear hK8 K8
        obtain ⟨T21, hT21⟩ : ∃ z, z = T14 ++ ((l[i].name)).data.toList := ⟨_, rfl⟩
        have hL21 : T21.length = T14.length + ((l[i].name)).data.toList.length := by rw [hT21, List.length_append]
        try simp only [List.length_cons, List.length_nil] at hL21
        have hA21 : aBin prog .add 9 (.val (.string (bs T14))) (.val (.string (l[i].name))) = some (.val (.string (bs T21))) := by rw [hT21]; exact addS _ (a := T14) (b := ((l[i].name)).data.toList) (show _ ≤ 140737488355328 by (try simp only [List.length_cons, List.length_nil]); omega)
        obtain ⟨T30, hT30⟩ : ∃ z, z = T21 ++ (tyT2 l[i].type) := ⟨_, rfl⟩
        have hL30 : T30.length = T21.length + (tyT2 l[i].type).length := by rw [hT30, List.length_append]
        try simp only [List.length_cons, List.length_nil] at hL30
        have hA30 : aBin prog .add 9 (.val (.string (bs T21))) (.val (.string (bs (tyT2 l[i].type)))) = some (.val (.string (bs T30))) := by rw [hT30]; exact addS _ (a := T21) (b := (tyT2 l[i].type)) (show _ ≤ 140737488355328 by (try simp only [List.length_cons, List.length_nil]); omega)
        refine AW.lastml mixed false [3] 16 (by kernel_rfl) (by kernel_rfl) (by rfl) fun K hK => ?_ -- region 7
        simp only [go_sem, Nat.reduceAdd, Nat.reduceEqDiff, Nat.reduceLeDiff, true_and, List.length_map, len_row, one_row, A.enc_one, A.enc_len, bs_size, app_get, app_get0, VarM.enc, at_row hx, row2_51, ty_at2 hty0 hty1, hA21, hA30]
        refine hK _ _ fun env' hw => ?_
        simp only [setL_cons, setL_nil, List.set_cons_zero, List.set_cons_succ, upd_none, upd_at] at hw
        refine hK7 _ _ (AW.weaken hw ?_); clear hw; try clear hK7 K7
        refine AW.lastl false [4] (by rfl) fun K hK => ?_ -- region 4
        simp only [go_sem, Nat.reduceAdd, Nat.reduceEqDiff, Nat.reduceLeDiff, true_and, List.length_map, len_row, one_row, A.enc_one, A.enc_len, bs_size, app_get, app_get0, VarM.enc]
        refine hK _ _ fun env' hw => ?_
        simp only [setL_cons, setL_nil, List.set_cons_zero, List.set_cons_succ] at hw
        refine ⟨i + 1, by omega, by omega, ?_, rfl⟩
        refine hw.trans ?_
        rw [hst]
        simp [Wk, wrap_succ hi1 hl0, hT30, hT21, hZ, varT, tyT2]
        try (rw [hT14, hZ]; simp [sepS])
      · skip
        have hi0 : i = 0 := by
          have : ¬ 0 < i := by simpa using hc12
          omega
        have hst : sepS.intercalate ((l.map varT).take (i + 1)) = sepS.intercalate ((l.map varT).take i) ++ varT l[i] := by
          cases hi0
          rw [List.take_zero, inter_nil, List.nil_append, ← hgi]
          exact inter_first sepS hil
        refine AW.skip ?_
        refine hK8 _ _ ?_; try clear hK8 K8
        obtain ⟨T21, hT21⟩ : ∃ z, z = Z ++ ((l[i].name)).data.toList := ⟨_, rfl⟩
        have hL21 : T21.length = Z.length + ((l[i].name)).data.toList.length := by rw [hT21, List.length_append]
        try simp only [List.length_cons, List.length_nil] at hL21
        have hA21 : aBin prog .add 9 (.val (.string (bs Z))) (.val (.string (l[i].name))) = some (.val (.string (bs T21))) := by rw [hT21]; exact addS _ (a := Z) (b := ((l[i].name)).data.toList) (show _ ≤ 140737488355328 by (try simp only [List.length_cons, List.length_nil]); omega)
        obtain ⟨T30, hT30⟩ : ∃ z, z = T21 ++ (tyT2 l[i].type) := ⟨_, rfl⟩
        have hL30 : T30.length = T21.length + (tyT2 l[i].type).length := by rw [hT30, List.length_append]
        try simp only [List.length_cons, List.length_nil] at hL30
        have hA30 : aBin prog .add 9 (.val (.string (bs T21))) (.val (.string (bs (tyT2 l[i].type)))) = some (.val (.string (bs T30))) := by rw [hT30]; exact addS _ (a := T21) (b := (tyT2 l[i].type)) (show _ ≤ 140737488355328 by (try simp only [List.length_cons, List.length_nil]); omega)
        refine AW.lastml mixed false [3] 16 (by kernel_rfl) (by kernel_rfl) (by rfl) fun K hK => ?_ -- region 7
        simp only [go_sem, Nat.reduceAdd, Nat.reduceEqDiff, Nat.reduceLeDiff, true_and, List.length_map, len_row, one_row, A.enc_one, A.enc_len, bs_size, app_get, app_get0, VarM.enc, at_row hx, row2_51, ty_at2 hty0 hty1, hA21, hA30]
        refine hK _ _ fun env' hw => ?_
        simp only [setL_cons, setL_nil, List.set_cons_zero, List.set_cons_succ, upd_none, upd_at] at hw
        refine hK7 _ _ (AW.weaken hw ?_); clear hw; try clear hK7 K7
        refine AW.lastl false [4] (by rfl) fun K hK => ?_ -- region 4
        simp only [go_sem, Nat.reduceAdd, Nat.reduceEqDiff, Nat.reduceLeDiff, true_and, List.length_map, len_row, one_row, A.enc_one, A.enc_len, bs_size, app_get, app_get0, VarM.enc]
        refine hK _ _ fun env' hw => ?_
        simp only [setL_cons, setL_nil, List.set_cons_zero, List.set_cons_succ] at hw
        refine ⟨i + 1, by omega, by omega, ?_, rfl⟩
        refine hw.trans ?_
        rw [hst]
        simp [Wk, wrap_succ hi1 hl0, hT30, hT21, hZ, varT, tyT2]
        try (rw [hT14, hZ]; simp [sepS])
    · skip
      have hi1 : i = l.length := by
        have : ¬ i < l.length := by simpa using hc8
        omega
      rw [hi1, show (l.map varT).take l.length = l.map varT from List.take_of_length_le (by simp)]
      refine AW.exit ?_
      refine hK3 _ _ ?_; try clear hK3 K3
      refine AW.regl false [2] (by rfl) fun K10 hK10 => ?_ -- region 8
      simp only [go_sem, Nat.reduceAdd, Nat.reduceEqDiff, Nat.reduceLeDiff, true_and, List.length_map, len_row, one_row, A.enc_one, A.enc_len, bs_size, app_get, app_get0, VarM.enc]
      refine hK10 _ _ ?_; try clear hK10 K10
      conv => enter [5]; simp only [setL_cons, setL_nil, List.set_cons_zero, List.set_cons_succ]
      refine AW.ret ⟨.inr rfl, _, rfl, by simp, ?_⟩ -- return 1
      exact .keep rfl
end Pr
end Go.Proofs.Tryd
/-! Printing: function 9. -/
namespace Go.Proofs.Tryd
set_option linter.unusedSimpArgs false
set_option linter.unusedVariables false
open Go Go.Proofs.Ev
namespace Pr
variable {Γ : List (Nat × List AV)}
set_option maxRecDepth 100000 in
set_option maxHeartbeats 4000000 in
open A (E VarM EqM NodeM ProgM) in
theorem rprint_calls (p : ProgM) (hr : p.right = true) (hg : ∀ n ∈ p.nodes, ∀ q ∈ n.eqs, ∀ d ∈ q.rhs.pre, rng d) (hf : (progT p).length ≤ 100000000) : APure prog Γ 9 [ProgM.enc p] (str (bs (progT p))) := by
  refine APure.of func9 rfl fun σ => ?_
  simp only [ntmps9, List.length_cons, List.length_nil, Nat.reduceAdd, Nat.reduceSub, List.replicate_succ, List.replicate_zero, List.cons_append, List.nil_append]
  have hpr : p.nodes.length ≤ 1000 ∧ ∀ n ∈ p.nodes, n.right = true := by
    simp only [ProgM.right, Bool.and_eq_true, decide_eq_true_eq, Bool.not_eq_true', List.any_eq_false] at hr
    exact ⟨by omega, fun n hn => by simpa using hr.2 n hn⟩
  obtain ⟨hpl, hnr⟩ := hpr
  have hl0 : p.nodes.length ≤ maxLen := by rw [maxLen_eq]; omega
  unfold progT at hf ⊢
  refine AW.regl false [1, 2] (by rfl) fun K1 hK1 => ?_ -- region 0
  simp only [go_sem, Nat.reduceAdd, Nat.reduceEqDiff, Nat.reduceLeDiff, true_and, List.length_map, len_row, one_row, A.enc_one, A.enc_len, bs_size, app_get, app_get0, ProgM.enc, NodeM.enc, EqM.enc, VarM.enc, A.node_get84, A.eqc_get81, A.enc_get43, A.node_len, A.node_all, List.drop_succ_cons, List.drop_zero]
  refine hK1 _ _ ?_; try clear hK1 K1
  conv => enter [5]; simp only [setL_cons, setL_nil, List.set_cons_zero, List.set_cons_succ]
  refine AW.regl false [3] (by rfl) fun K2 hK2 => ?_ -- region 1
  simp only [go_sem, Nat.reduceAdd, Nat.reduceEqDiff, Nat.reduceLeDiff, true_and, List.length_map, len_row, one_row, A.enc_one, A.enc_len, bs_size, app_get, app_get0, ProgM.enc, NodeM.enc, EqM.enc, VarM.enc, A.node_get84, A.eqc_get81, A.enc_get43, A.node_len, A.node_all, List.drop_succ_cons, List.drop_zero]
  refine hK2 _ _ ?_; try clear hK2 K2
  conv => enter [5]; simp only [setL_cons, setL_nil, List.set_cons_zero, List.set_cons_succ]
  refine AW.seq_k fun K3 hK3 => ?_
  refine AW.regl false [4] (by rfl) fun K4 hK4 => ?_ -- region 2
  simp only [go_sem, Nat.reduceAdd, Nat.reduceEqDiff, Nat.reduceLeDiff, true_and, List.length_map, len_row, one_row, A.enc_one, A.enc_len, bs_size, app_get, app_get0, ProgM.enc, NodeM.enc, EqM.enc, VarM.enc, A.node_get84, A.eqc_get81, A.enc_get43, A.node_len, A.node_all, List.drop_succ_cons, List.drop_zero]
  refine hK4 _ _ ?_; try clear hK4 K4
  conv => enter [5]; simp only [setL_cons, setL_nil, List.set_cons_zero, List.set_cons_succ]
  refine AW.block ?_
  refine AW.loop_dr (α := Nat) (fun i => [.any, (.ref σ.length 0), .any, (.val (.string (bs (((p.nodes.map nodeT).take i).flatten)))), (.val (.int .i64 ((i : Nat) : Int))), .any, .any, .any, .any, .any, .any, .any, .any, .any, .any, .any, .any, .any, .any, .any, .any, .any, .any, .any, .any, .any, .any, .any, .any, .any, .any, .any, .any, .any, .any, .any, .any, .any, .any, .any, .any, .any, .any, .any, .any, .any, .any, .any, .any, .any, .any, .any, .any, .any, .any, .any, .any, .any, .any, .any, .any, .any, .any, .any, .any, .any, .any, .any, .any, .any, .any, .any, .any, .any, .any, .any, .any, .any, .any, .any, .any, .any, .any, .any, .any, .any, .any, .any, .any, .any, .any, .any, .any, .any, .any, .any, .any, .any, .any, .any, .any, .any]) (fun i => σ ++ [.cells [rowAV 5 p.nl (p.nodes.map NodeM.enc)]]) (fun i => p.nodes.length - i) (fun i => i ≤ p.nodes.length) 0 ?_ ?_ ?_
  · exact ⟨Nat.zero_le _, by simp [Wk, bs], rfl⟩
  · exact fun y _ => ⟨by simp [belL, AV.bel], bel_one⟩
  · intro i hi
    refine AW.seq_k fun K5 hK5 => ?_
    refine AW.regl false [14] (by rfl) fun K6 hK6 => ?_ -- region 3
    simp only [go_sem, Nat.reduceAdd, Nat.reduceEqDiff, Nat.reduceLeDiff, true_and, List.length_map, len_row, one_row, A.enc_one, A.enc_len, bs_size, app_get, app_get0, ProgM.enc, NodeM.enc, EqM.enc, VarM.enc, A.node_get84, A.eqc_get81, A.enc_get43, A.node_len, A.node_all, List.drop_succ_cons, List.drop_zero]
    refine hK6 _ _ ?_; try clear hK6 K6
    conv => enter [5]; simp only [setL_cons, setL_nil, List.set_cons_zero, List.set_cons_succ]
    refine AW.cond rfl (fun hc14 => ?_) (fun hc14 => ?_)
    · skip
      have hi1 : i < p.nodes.length := by simpa using hc14
      have hx : (p.nodes.map NodeM.enc)[i]? = some (NodeM.enc (p.nodes[i])) := by rw [List.getElem?_map, List.getElem?_eq_getElem hi1]; rfl
      have hii : i < (p.nodes.map nodeT).length := by simpa using hi1
      have hfl := flat_succ hii
      have hgi : (p.nodes.map nodeT)[i] = nodeT p.nodes[i] := by simp
      have hfi := flat_le (p.nodes.map nodeT) (i + 1)
      rw [hfl, hgi, List.length_append] at hfi
      have hnm := hnr _ (List.getElem_mem hi1)
      have hgn := hg _ (List.getElem_mem hi1)
      obtain ⟨n, hn⟩ : ∃ z, z = p.nodes[i] := ⟨_, rfl⟩
      rw [← hn] at hx hgi hfi hnm hgn
      obtain ⟨hn1, hvi, hvo, hvl, hel, heq⟩ := node_right hnm
      have hle : n.eqs.length ≤ maxLen := by rw [maxLen_eq]; omega
      have hri := rvars_text (Γ := Γ) n.nlI n.ins hvi
      have hro := rvars_text (Γ := Γ) n.nlO n.outs hvo
      have hrl := rvars_text (Γ := Γ) n.nlL n.locals hvl
      have hnt : (nodeT n).length = (nodeH n).length + ((n.eqs.map eqT).flatten.length + 4) := by simp [nodeT]
      obtain ⟨VI, hVI⟩ : ∃ w, w = varsT n.ins := ⟨_, rfl⟩
      obtain ⟨VO, hVO⟩ : ∃ w, w = varsT n.outs := ⟨_, rfl⟩
      obtain ⟨VL, hVL⟩ : ∃ w, w = varsT n.locals := ⟨_, rfl⟩
      rw [← hVI] at hri
      rw [← hVO] at hro
      rw [← hVL] at hrl
      obtain ⟨Z, hZ⟩ : ∃ w, w = ((p.nodes.map nodeT).take i).flatten := ⟨_, rfl⟩
      rw [← hZ] at hfi hfl
      rw [← hZ]
      have hnh : 5 + n.name.data.toList.length + 1 + VI.length + 11 + VO.length + 3 + 4 ≤ (nodeH n).length := by
        rw [hVI, hVO]
        unfold nodeH
        split <;> simp only [List.length_append, List.length_cons, List.length_nil] <;> omega
      refine AW.skip ?_
      refine hK5 _ _ ?_; try clear hK5 K5
      refine AW.seq_k fun K7 hK7 => ?_
      refine AW.block ?_
      refine AW.regl false [5] (by rfl) fun K8 hK8 => ?_ -- region 5
      simp only [go_sem, Nat.reduceAdd, Nat.reduceEqDiff, Nat.reduceLeDiff, true_and, List.length_map, len_row, one_row, A.enc_one, A.enc_len, bs_size, app_get, app_get0, ProgM.enc, NodeM.enc, EqM.enc, VarM.enc, A.node_get84, A.eqc_get81, A.enc_get43, A.node_len, A.node_all, List.drop_succ_cons, List.drop_zero, at_row hx]
      refine hK8 _ _ ?_; try clear hK8 K8
      conv => enter [5]; simp only [setL_cons, setL_nil, List.set_cons_zero, List.set_cons_succ, upd_none, upd_at]
      obtain ⟨T23, hT23⟩ : ∃ z, z = Z ++ ([110, 111, 100, 101, 32] : List UInt8) := ⟨_, rfl⟩
      have hL23 : T23.length = Z.length + ([110, 111, 100, 101, 32] : List UInt8).length := by rw [hT23, List.length_append]
      try simp only [List.length_cons, List.length_nil] at hL23
      have hA23 : aBin prog .add 9 (.val (.string (bs Z))) (.val (.string ⟨#[110, 111, 100, 101, 32]⟩)) = some (.val (.string (bs T23))) := by rw [hT23]; exact addS _ (a := Z) (b := ([110, 111, 100, 101, 32] : List UInt8)) (show _ ≤ 140737488355328 by (try simp only [List.length_cons, List.length_nil]); omega)
      obtain ⟨T26, hT26⟩ : ∃ z, z = T23 ++ (n.name).data.toList := ⟨_, rfl⟩
      have hL26 : T26.length = T23.length + (n.name).data.toList.length := by rw [hT26, List.length_append]
      have hA26 : aBin prog .add 9 (.val (.string (bs T23))) (.val (.string n.name)) = some (.val (.string (bs T26))) := by rw [hT26]; exact addS _ (a := T23) (b := (n.name).data.toList) (show _ ≤ 140737488355328 by (try simp only [List.length_cons, List.length_nil]); omega)
      obtain ⟨T27, hT27⟩ : ∃ z, z = T26 ++ ([40] : List UInt8) := ⟨_, rfl⟩
      have hL27 : T27.length = T26.length + ([40] : List UInt8).length := by rw [hT27, List.length_append]
      try simp only [List.length_cons, List.length_nil] at hL27
      have hA27 : aBin prog .add 9 (.val (.string (bs T26))) (.val (.string ⟨#[40]⟩)) = some (.val (.string (bs T27))) := by rw [hT27]; exact addS _ (a := T26) (b := ([40] : List UInt8)) (show _ ≤ 140737488355328 by (try simp only [List.length_cons, List.length_nil]); omega)
      obtain ⟨T31, hT31⟩ : ∃ z, z = T27 ++ VI := ⟨_, rfl⟩
      have hL31 : T31.length = T27.length + VI.length := by rw [hT31, List.length_append]
      have hA31 : aBin prog .add 9 (.val (.string (bs T27))) (.val (.string (bs VI))) = some (.val (.string (bs T31))) := by rw [hT31]; exact addS _ (a := T27) (b := VI) (show _ ≤ 140737488355328 by (try simp only [List.length_cons, List.length_nil]); omega)
      obtain ⟨T32, hT32⟩ : ∃ z, z = T31 ++ ([41, 32, 114, 101, 116, 117, 114, 110, 115, 32, 40] : List UInt8) := ⟨_, rfl⟩
      have hL32 : T32.length = T31.length + ([41, 32, 114, 101, 116, 117, 114, 110, 115, 32, 40] : List UInt8).length := by rw [hT32, List.length_append]
      try simp only [List.length_cons, List.length_nil] at hL32
      have hA32 : aBin prog .add 9 (.val (.string (bs T31))) (.val (.string ⟨#[41, 32, 114, 101, 116, 117, 114, 110, 115, 32, 40]⟩)) = some (.val (.string (bs T32))) := by rw [hT32]; exact addS _ (a := T31) (b := ([41, 32, 114, 101, 116, 117, 114, 110, 115, 32, 40] : List UInt8)) (show _ ≤ 140737488355328 by (try simp only [List.length_cons, List.length_nil]); omega)
      obtain ⟨T36, hT36⟩ : ∃ z, z = T32 ++ VO := ⟨_, rfl⟩
      have hL36 : T36.length = T32.length + VO.length := by rw [hT36, List.length_append]
      have hA36 : aBin prog .add 9 (.val (.string (bs T32))) (.val (.string (bs VO))) = some (.val (.string (bs T36))) := by rw [hT36]; exact addS _ (a := T32) (b := VO) (show _ ≤ 140737488355328 by (try simp only [List.length_cons, List.length_nil]); omega)
      obtain ⟨T37, hT37⟩ : ∃ z, z = T36 ++ ([41, 59, 10] : List UInt8) := ⟨_, rfl⟩
      have hL37 : T37.length = T36.length + ([41, 59, 10] : List UInt8).length := by rw [hT37, List.length_append]
      try simp only [List.length_cons, List.length_nil] at hL37
      have hA37 : aBin prog .add 9 (.val (.string (bs T36))) (.val (.string ⟨#[41, 59, 10]⟩)) = some (.val (.string (bs T37))) := by rw [hT37]; exact addS _ (a := T36) (b := ([41, 59, 10] : List UInt8)) (show _ ≤ 140737488355328 by (try simp only [List.length_cons, List.length_nil]); omega)
      refine AW.regml mixed false [3] 16 (by kernel_rfl) (by kernel_rfl) (by rfl) fun K9 hK9 => ?_ -- region 6
      simp only [go_sem, Nat.reduceAdd, Nat.reduceEqDiff, Nat.reduceLeDiff, true_and, List.length_map, len_row, one_row, A.enc_one, A.enc_len, bs_size, app_get, app_get0, ProgM.enc, NodeM.enc, EqM.enc, VarM.enc, A.node_get84, A.eqc_get81, A.enc_get43, A.node_len, A.node_all, List.drop_succ_cons, List.drop_zero, hA23, hA26, hA27, hA31, hA32, hA36, hA37]
      refine qC.of en20 (hri.on _).here (by rfl) ?_
      simp only [go_sem, Nat.reduceAdd, Nat.reduceEqDiff, Nat.reduceLeDiff, true_and, List.length_map, len_row, one_row, A.enc_one, A.enc_len, bs_size, app_get, app_get0, ProgM.enc, NodeM.enc, EqM.enc, VarM.enc, A.node_get84, A.eqc_get81, A.enc_get43, A.node_len, A.node_all, List.drop_succ_cons, List.drop_zero, hA23, hA26, hA27, hA31, hA32, hA36, hA37]
      refine qC.of en20 (hro.on _).here (by rfl) ?_
      simp only [go_sem, Nat.reduceAdd, Nat.reduceEqDiff, Nat.reduceLeDiff, true_and, List.length_map, len_row, one_row, A.enc_one, A.enc_len, bs_size, app_get, app_get0, ProgM.enc, NodeM.enc, EqM.enc, VarM.enc, A.node_get84, A.eqc_get81, A.enc_get43, A.node_len, A.node_all, List.drop_succ_cons, List.drop_zero, hA23, hA26, hA27, hA31, hA32, hA36, hA37]
      refine hK9 _ _ ?_; try clear hK9 K9
      conv => enter [5]; simp only [setL_cons, setL_nil, List.set_cons_zero, List.set_cons_succ]
      refine AW.seq_k fun K10 hK10 => ?_
      refine AW.regl false [41] (by rfl) fun K11 hK11 => ?_ -- region 7
      simp only [go_sem, Nat.reduceAdd, Nat.reduceEqDiff, Nat.reduceLeDiff, true_and, List.length_map, len_row, one_row, A.enc_one, A.enc_len, bs_size, app_get, app_get0, ProgM.enc, NodeM.enc, EqM.enc, VarM.enc, A.node_get84, A.eqc_get81, A.enc_get43, A.node_len, A.node_all, List.drop_succ_cons, List.drop_zero]
      refine hK11 _ _ ?_; try clear hK11 K11
      conv => enter [5]; simp only [setL_cons, setL_nil, List.set_cons_zero, List.set_cons_succ]
      refine AW.cond rfl (fun hc41 => ?_) (fun hc41 => ?_)
      · skip
        have hloc : n.locals.length > 0 := by have h := hc41; simp at h; omega
        have hnh2 : (nodeH n).length = 5 + n.name.data.toList.length + 1 + VI.length + 11 + VO.length + 3 + 4 + VL.length + 6 := by
          rw [hVI, hVO, hVL]
          unfold nodeH
          rw [if_pos hloc]
          simp only [List.length_append, List.length_cons, List.length_nil]
          omega
        obtain ⟨T43, hT43⟩ : ∃ z, z = T37 ++ ([118, 97, 114, 32] : List UInt8) := ⟨_, rfl⟩
        have hL43 : T43.length = T37.length + ([118, 97, 114, 32] : List UInt8).length := by rw [hT43, List.length_append]
        try simp only [List.length_cons, List.length_nil] at hL43
        have hA43 : aBin prog .add 9 (.val (.string (bs T37))) (.val (.string ⟨#[118, 97, 114, 32]⟩)) = some (.val (.string (bs T43))) := by rw [hT43]; exact addS _ (a := T37) (b := ([118, 97, 114, 32] : List UInt8)) (show _ ≤ 140737488355328 by (try simp only [List.length_cons, List.length_nil]); omega)
        obtain ⟨T47, hT47⟩ : ∃ z, z = T43 ++ VL := ⟨_, rfl⟩
        have hL47 : T47.length = T43.length + VL.length := by rw [hT47, List.length_append]
        have hA47 : aBin prog .add 9 (.val (.string (bs T43))) (.val (.string (bs VL))) = some (.val (.string (bs T47))) := by rw [hT47]; exact addS _ (a := T43) (b := VL) (show _ ≤ 140737488355328 by (try simp only [List.length_cons, List.length_nil]); omega)
        obtain ⟨T48, hT48⟩ : ∃ z, z = T47 ++ ([59, 10] : List UInt8) := ⟨_, rfl⟩
        have hL48 : T48.length = T47.length + ([59, 10] : List UInt8).length := by rw [hT48, List.length_append]
        try simp only [List.length_cons, List.length_nil] at hL48
        have hA48 : aBin prog .add 9 (.val (.string (bs T47))) (.val (.string ⟨#[59, 10]⟩)) = some (.val (.string (bs T48))) := by rw [hT48]; exact addS _ (a := T47) (b := ([59, 10] : List UInt8)) (show _ ≤ 140737488355328 by (try simp only [List.length_cons, List.length_nil]); omega)
        refine AW.lastl false [3] (by rfl) fun K hK => ?_ -- region 8
        simp only [go_sem, Nat.reduceAdd, Nat.reduceEqDiff, Nat.reduceLeDiff, true_and, List.length_map, len_row, one_row, A.enc_one, A.enc_len, bs_size, app_get, app_get0, ProgM.enc, NodeM.enc, EqM.enc, VarM.enc, A.node_get84, A.eqc_get81, A.enc_get43, A.node_len, A.node_all, List.drop_succ_cons, List.drop_zero, hA43, hA47, hA48]
        refine sC.of en20 (hrl.on _).here (by rfl) ?_
        simp only [go_sem, Nat.reduceAdd, Nat.reduceEqDiff, Nat.reduceLeDiff, true_and, List.length_map, len_row, one_row, A.enc_one, A.enc_len, bs_size, app_get, app_get0, ProgM.enc, NodeM.enc, EqM.enc, VarM.enc, A.node_get84, A.eqc_get81, A.enc_get43, A.node_len, A.node_all, List.drop_succ_cons, List.drop_zero, hA43, hA47, hA48]
        refine hK _ _ fun env' hw => ?_
        simp only [setL_cons, setL_nil, List.set_cons_zero, List.set_cons_succ] at hw
        refine hK10 _ _ (AW.weaken hw ?_); clear hw; try clear hK10 K10
        obtain ⟨T50, hT50⟩ : ∃ z, z = T48 ++ ([108, 101, 116, 10] : List UInt8) := ⟨_, rfl⟩
        have hL50 : T50.length = T48.length + ([108, 101, 116, 10] : List UInt8).length := by rw [hT50, List.length_append]
        try simp only [List.length_cons, List.length_nil] at hL50
        have hA50 : aBin prog .add 9 (.val (.string (bs T48))) (.val (.string ⟨#[108, 101, 116, 10]⟩)) = some (.val (.string (bs T50))) := by rw [hT50]; exact addS _ (a := T48) (b := ([108, 101, 116, 10] : List UInt8)) (show _ ≤ 140737488355328 by (try simp only [List.length_cons, List.length_nil]); omega)
        refine AW.regl false [3] (by rfl) fun K12 hK12 => ?_ -- region 9
        simp only [go_sem, Nat.reduceAdd, Nat.reduceEqDiff, Nat.reduceLeDiff, true_and, List.length_map, len_row, one_row, A.enc_one, A.enc_len, bs_size, app_get, app_get0, ProgM.enc, NodeM.enc, EqM.enc, VarM.enc, A.node_get84, A.eqc_get81, A.enc_get43, A.node_len, A.node_all, List.drop_succ_cons, List.drop_zero, hA50]
        refine hK12 _ _ ?_; try clear hK12 K12
        conv => enter [5]; simp only [setL_cons, setL_nil, List.set_cons_zero, List.set_cons_succ]
        refine AW.seq_k fun K13 hK13 => ?_
        refine AW.regl false [6] (by rfl) fun K14 hK14 => ?_ -- region 10
        simp only [go_sem, Nat.reduceAdd, Nat.reduceEqDiff, Nat.reduceLeDiff, true_and, List.length_map, len_row, one_row, A.enc_one, A.enc_len, bs_size, app_get, app_get0, ProgM.enc, NodeM.enc, EqM.enc, VarM.enc, A.node_get84, A.eqc_get81, A.enc_get43, A.node_len, A.node_all, List.drop_succ_cons, List.drop_zero]
        refine hK14 _ _ ?_; try clear hK14 K14
        conv => enter [5]; simp only [setL_cons, setL_nil, List.set_cons_zero, List.set_cons_succ]
        refine AW.block ?_
        refine AW.loop_dr (α := Nat) (fun j => [.any, (.ref σ.length 0), .any, (.val (.string (bs (Z ++ (nodeH n ++ ((n.eqs.map eqT).take j).flatten))))), (.val (.int .i64 ((i : Nat) : Int))), (.ref (σ.length + 1) 0), (.val (.int .i64 ((j : Nat) : Int))), .any, .any, .any, .any, .any, .any, .any, .any, .any, .any, .any, .any, .any, .any, .any, .any, .any, .any, .any, .any, .any, .any, .any, .any, .any, .any, .any, .any, .any, .any, .any, .any, .any, .any, .any, .any, .any, .any, .any, .any, .any, .any, .any, .any, .any, .any, .any, .any, .any, .any, .any, .any, .any, .any, .any, .any, .any, .any, .any, .any, .any, .any, .any, .any, .any, .any, .any, .any, .any, .any, .any, .any, .any, .any, .any, .any, .any, .any, .any, .any, .any, .any, .any, .any, .any, .any, .any, .any, .any, .any, .any, .any, .any, .any, .any]) (fun j => σ ++ [.cells [rowAV 5 p.nl (p.nodes.map NodeM.enc)], .cells [str n.name, rowAV 2 n.nlI (n.ins.map VarM.enc), rowAV 2 n.nlO (n.outs.map VarM.enc), rowAV 2 n.nlL (n.locals.map VarM.enc), rowAV 6 n.nlE (n.eqs.map EqM.enc)]]) (fun j => n.eqs.length - j) (fun j => j ≤ n.eqs.length) 0 ?_ ?_ ?_
        · exact ⟨Nat.zero_le _, by simp [Wk, nodeH, hloc, hT50, hT48, hT47, hT43, hT37, hT36, hT32, hT31, hT27, hT26, hT23, hVI, hVO, hVL], rfl⟩
        · exact fun y _ => ⟨by simp [belL, AV.bel], bel_one⟩
        · intro j hi
          refine AW.seq_k fun K15 hK15 => ?_
          refine AW.regl false [55] (by rfl) fun K16 hK16 => ?_ -- region 11
          simp only [go_sem, Nat.reduceAdd, Nat.reduceEqDiff, Nat.reduceLeDiff, true_and, List.length_map, len_row, one_row, A.enc_one, A.enc_len, bs_size, app_get, app_get0, ProgM.enc, NodeM.enc, EqM.enc, VarM.enc, A.node_get84, A.eqc_get81, A.enc_get43, A.node_len, A.node_all, List.drop_succ_cons, List.drop_zero]
          refine hK16 _ _ ?_; try clear hK16 K16
          conv => enter [5]; simp only [setL_cons, setL_nil, List.set_cons_zero, List.set_cons_succ]
          refine AW.cond rfl (fun hc55 => ?_) (fun hc55 => ?_)
          · skip
            have hj1 : j < n.eqs.length := by simpa using hc55
            have hxe : (n.eqs.map EqM.enc)[j]? = some (EqM.enc (n.eqs[j])) := by rw [List.getElem?_map, List.getElem?_eq_getElem hj1]; rfl
            have hij : j < (n.eqs.map eqT).length := by simpa using hj1
            have hflj := flat_succ hij
            have hgj : (n.eqs.map eqT)[j] = eqT n.eqs[j] := by simp
            have hfj := flat_le (n.eqs.map eqT) (j + 1)
            rw [hflj, hgj, List.length_append] at hfj
            have huq := heq _ (List.getElem_mem hj1)
            have hgu := hgn _ (List.getElem_mem hj1)
            obtain ⟨u, hu⟩ : ∃ z, z = n.eqs[j] := ⟨_, rfl⟩
            rw [← hu] at hxe hgj hfj huq hgu
            obtain ⟨⟨hq1, hq2⟩, hq3, hq4⟩ := eq_right huq
            have hx0 : (u.lhs.map str)[0]? = some (str u.lhs[0]) := by rw [List.getElem?_map, List.getElem?_eq_getElem hq1]; rfl
            obtain ⟨D, hD⟩ : ∃ w, w = u.lhs.map (·.data.toList) := ⟨_, rfl⟩
            have hDl : D.length = u.lhs.length := by rw [hD]; simp
            have hD0 : D[0] = u.lhs[0].data.toList := by simp [hD]
            have heT : (eqT u).length = 2 + (lhsT u.lhs).length + 3 + (tx u.rhs).length + 2 := by simp only [eqT, List.length_append, List.length_cons, List.length_nil]; omega
            have hll : (sepC.intercalate D).length ≤ (lhsT u.lhs).length := by
              unfold lhsT
              rw [← hD]
              split
              · simp only [List.length_append, List.length_cons, List.length_nil]
                omega
              · omega
            have hs2 : sepC.length = 2 := rfl
            have hnm0 := inter_mem sepC (show D[0] ∈ D from List.getElem_mem _)
            rw [hD0] at hnm0
            have hrx := rexpr_calls (Γ := Γ) u.rhs hq4 hgu (by omega)
            obtain ⟨XR, hXR⟩ : ∃ w, w = tx u.rhs := ⟨_, rfl⟩
            rw [← hXR] at hrx heT
            obtain ⟨Y, hY⟩ : ∃ w, w = Z ++ (nodeH n ++ ((n.eqs.map eqT).take j).flatten) := ⟨_, rfl⟩
            have hYl : Y.length = Z.length + ((nodeH n).length + ((n.eqs.map eqT).take j).flatten.length) := by rw [hY, List.length_append, List.length_append]
            rw [← hY]
            refine AW.skip ?_
            refine hK15 _ _ ?_; try clear hK15 K15
            refine AW.seq_k fun K17 hK17 => ?_
            refine AW.block ?_
            refine AW.regl false [7] (by rfl) fun K18 hK18 => ?_ -- region 13
            simp only [go_sem, Nat.reduceAdd, Nat.reduceEqDiff, Nat.reduceLeDiff, true_and, List.length_map, len_row, one_row, A.enc_one, A.enc_len, bs_size, app_get, app_get0, ProgM.enc, NodeM.enc, EqM.enc, VarM.enc, A.node_get84, A.eqc_get81, A.enc_get43, A.node_len, A.node_all, List.drop_succ_cons, List.drop_zero, at_row hxe]
            refine hK18 _ _ ?_; try clear hK18 K18
            conv => enter [5]; simp only [setL_cons, setL_nil, List.set_cons_zero, List.set_cons_succ, upd_none, upd_at]
            refine AW.regl false [8] (by rfl) fun K19 hK19 => ?_ -- region 14
            simp only [go_sem, Nat.reduceAdd, Nat.reduceEqDiff, Nat.reduceLeDiff, true_and, List.length_map, len_row, one_row, A.enc_one, A.enc_len, bs_size, app_get, app_get0, ProgM.enc, NodeM.enc, EqM.enc, VarM.enc, A.node_get84, A.eqc_get81, A.enc_get43, A.node_len, A.node_all, List.drop_succ_cons, List.drop_zero, at_row0 hx0]
            refine hK19 _ _ ?_; try clear hK19 K19
            conv => enter [5]; simp only [setL_cons, setL_nil, List.set_cons_zero, List.set_cons_succ]
            refine AW.seq_k fun K20 hK20 => ?_
            refine AW.regl false [70] (by rfl) fun K21 hK21 => ?_ -- region 15
            simp only [go_sem, Nat.reduceAdd, Nat.reduceEqDiff, Nat.reduceLeDiff, true_and, List.length_map, len_row, one_row, A.enc_one, A.enc_len, bs_size, app_get, app_get0, ProgM.enc, NodeM.enc, EqM.enc, VarM.enc, A.node_get84, A.eqc_get81, A.enc_get43, A.node_len, A.node_all, List.drop_succ_cons, List.drop_zero]
            refine hK21 _ _ ?_; try clear hK21 K21
            conv => enter [5]; simp only [setL_cons, setL_nil, List.set_cons_zero, List.set_cons_succ]
            refine AW.cond rfl (fun hc70 => ?_) (fun hc70 => ?_)
            · skip
              have hgt : u.lhs.length > 1 := by have h := hc70; simp at h; omega
              have hLT : lhsT u.lhs = [40] ++ sepC.intercalate D ++ [41] := by unfold lhsT; rw [if_pos hgt, hD]
              have hLl : (lhsT u.lhs).length = (sepC.intercalate D).length + 2 := by rw [hLT]; simp only [List.length_append, List.length_cons, List.length_nil]; omega
              refine AW.seq_k fun K22 hK22 => ?_
              refine AW.regl false [9] (by rfl) fun K23 hK23 => ?_ -- region 16
              simp only [go_sem, Nat.reduceAdd, Nat.reduceEqDiff, Nat.reduceLeDiff, true_and, List.length_map, len_row, one_row, A.enc_one, A.enc_len, bs_size, app_get, app_get0, ProgM.enc, NodeM.enc, EqM.enc, VarM.enc, A.node_get84, A.eqc_get81, A.enc_get43, A.node_len, A.node_all, List.drop_succ_cons, List.drop_zero]
              refine hK23 _ _ ?_; try clear hK23 K23
              conv => enter [5]; simp only [setL_cons, setL_nil, List.set_cons_zero, List.set_cons_succ]
              refine AW.block ?_
              refine AW.loop_wk (α := Nat) (fun m => [.any, (.ref σ.length 0), .any, (.val (.string (bs Y))), (.val (.int .i64 ((i : Nat) : Int))), (.ref (σ.length + 1) 0), (.val (.int .i64 ((j : Nat) : Int))), (.ref (σ.length + 2) 0), (.val (.string (bs (sepC.intercalate (D.take m))))), (.val (.int .i64 ((m : Nat) : Int))), .any, .any, .any, .any, .any, .any, .any, .any, .any, .any, .any, .any, .any, .any, .any, .any, .any, .any, .any, .any, .any, .any, .any, .any, .any, .any, .any, .any, .any, .any, .any, .any, .any, .any, .any, .any, .any, .any, .any, .any, .any, .any, .any, .any, .any, .any, .any, .any, .any, .any, .any, .any, .any, .any, .any, .any, .any, .any, .any, .any, .any, .any, .any, .any, .any, .any, .any, .any, .any, .any, .any, .any, .any, .any, .any, .any, .any, .any, .any, .any, .any, .any, .any, .any, .any, .any, .any, .any, .any, .any, .any, .any]) (fun m => σ ++ [.cells (ProgM.enc p).cells, .cells (NodeM.enc n).cells, .cells (EqM.enc u).cells]) (fun m => u.lhs.length - m) (fun m => 1 ≤ m ∧ m ≤ u.lhs.length) 1 ?_ ?_
              · exact ⟨⟨Nat.le_refl _, hq1⟩, by simp [Wk, inter_first sepC (show 0 < D.length by omega), hD0, bs_of], rfl⟩
              · rintro m ⟨hm1, hm2⟩
                refine AW.seq_k fun K24 hK24 => ?_
                refine AW.regl false [75] (by rfl) fun K25 hK25 => ?_ -- region 17
                simp only [go_sem, Nat.reduceAdd, Nat.reduceEqDiff, Nat.reduceLeDiff, true_and, List.length_map, len_row, one_row, A.enc_one, A.enc_len, bs_size, app_get, app_get0, ProgM.enc, NodeM.enc, EqM.enc, VarM.enc, A.node_get84, A.eqc_get81, A.enc_get43, A.node_len, A.node_all, List.drop_succ_cons, List.drop_zero]
                refine hK25 _ _ ?_; try clear hK25 K25
                conv => enter [5]; simp only [setL_cons, setL_nil, List.set_cons_zero, List.set_cons_succ]
                refine AW.cond rfl (fun hc75 => ?_) (fun hc75 => ?_)
                · skip
                  have hmm : m < u.lhs.length := by have h := hc75; simp at h; omega
                  have hxm : (u.lhs.map str)[m]? = some (str u.lhs[m]) := by rw [List.getElem?_map, List.getElem?_eq_getElem hmm]; rfl
                  have hmD : m < D.length := by omega
                  have hstm := inter_step sepC hmD hm1
                  have hDm : D[m] = u.lhs[m].data.toList := by simp [hD]
                  rw [hDm] at hstm
                  have hitm := inter_take_le sepC D (m + 1)
                  rw [hstm, List.length_append, List.length_append] at hitm
                  obtain ⟨W, hW⟩ : ∃ w, w = sepC.intercalate (D.take m) := ⟨_, rfl⟩
                  rw [← hW] at hitm
                  rw [← hW]
                  refine AW.skip ?_
                  refine hK24 _ _ ?_; try clear hK24 K24
                  refine AW.seq_k fun K26 hK26 => ?_
                  refine AW.block ?_
                  obtain ⟨T79, hT79⟩ : ∃ z, z = W ++ ([44, 32] : List UInt8) := ⟨_, rfl⟩
                  have hL79 : T79.length = W.length + ([44, 32] : List UInt8).length := by rw [hT79, List.length_append]
                  try simp only [List.length_cons, List.length_nil] at hL79
                  have hA79 : aBin prog .add 9 (.val (.string (bs W))) (.val (.string ⟨#[44, 32]⟩)) = some (.val (.string (bs T79))) := by rw [hT79]; exact addS _ (a := W) (b := ([44, 32] : List UInt8)) (show _ ≤ 140737488355328 by (try simp only [List.length_cons, List.length_nil]); omega)
                  obtain ⟨T85, hT85⟩ : ∃ z, z = T79 ++ ((u.lhs[m])).data.toList := ⟨_, rfl⟩
                  have hL85 : T85.length = T79.length + ((u.lhs[m])).data.toList.length := by rw [hT85, List.length_append]
                  try simp only [List.length_cons, List.length_nil] at hL85
                  have hA85 : aBin prog .add 9 (.val (.string (bs T79))) (.val (.string (u.lhs[m]))) = some (.val (.string (bs T85))) := by rw [hT85]; exact addS _ (a := T79) (b := ((u.lhs[m])).data.toList) (show _ ≤ 140737488355328 by (try simp only [List.length_cons, List.length_nil]); omega)
                  refine AW.lastl false [8] (by rfl) fun K hK => ?_ -- region 19
                  simp only [go_sem, Nat.reduceAdd, Nat.reduceEqDiff, Nat.reduceLeDiff, true_and, List.length_map, len_row, one_row, A.enc_one, A.enc_len, bs_size, app_get, app_get0, ProgM.enc, NodeM.enc, EqM.enc, VarM.enc, A.node_get84, A.eqc_get81, A.enc_get43, A.node_len, A.node_all, List.drop_succ_cons, List.drop_zero, at_row hxm, hA79, hA85]
                  refine hK _ _ fun env' hw => ?_
                  simp only [setL_cons, setL_nil, List.set_cons_zero, List.set_cons_succ] at hw
                  refine hK26 _ _ (AW.weaken hw ?_); clear hw; try clear hK26 K26
                  refine AW.lastl false [9] (by rfl) fun K hK => ?_ -- region 18
                  simp only [go_sem, Nat.reduceAdd, Nat.reduceEqDiff, Nat.reduceLeDiff, true_and, List.length_map, len_row, one_row, A.enc_one, A.enc_len, bs_size, app_get, app_get0, ProgM.enc, NodeM.enc, EqM.enc, VarM.enc, A.node_get84, A.eqc_get81, A.enc_get43, A.node_len, A.node_all, List.drop_succ_cons, List.drop_zero]
                  refine hK _ _ fun env' hw => ?_
                  simp only [setL_cons, setL_nil, List.set_cons_zero, List.set_cons_succ] at hw
                  refine ⟨m + 1, by omega, by omega, ?_, rfl⟩
                  refine hw.trans ?_
                  rw [hstm, ← hW]
                  simp [Wk, wrap_succ hmm (show u.lhs.length ≤ maxLen by rw [maxLen_eq]; omega), hT85, hT79, sepC]
                · skip
                  have hmm : m = u.lhs.length := by have h := hc75; simp at h; omega
                  rw [show D.take m = D from List.take_of_length_le (by omega)]
                  obtain ⟨W, hW⟩ : ∃ w, w = sepC.intercalate D := ⟨_, rfl⟩
                  rw [← hW] at hll hLl hLT
                  rw [← hW]
                  refine AW.exit ?_
                  refine hK22 _ _ ?_; try clear hK22 K22
                  obtain ⟨T87, hT87⟩ : ∃ z, z = ([40] : List UInt8) ++ W := ⟨_, rfl⟩
                  have hL87 : T87.length = ([40] : List UInt8).length + W.length := by rw [hT87, List.length_append]
                  try simp only [List.length_cons, List.length_nil] at hL87
                  have hA87 : aBin prog .add 9 (.val (.string ⟨#[40]⟩)) (.val (.string (bs W))) = some (.val (.string (bs T87))) := by rw [hT87]; exact addS _ (a := ([40] : List UInt8)) (b := W) (show _ ≤ 140737488355328 by (try simp only [List.length_cons, List.length_nil]); omega)
                  obtain ⟨T88, hT88⟩ : ∃ z, z = T87 ++ ([41] : List UInt8) := ⟨_, rfl⟩
                  have hL88 : T88.length = T87.length + ([41] : List UInt8).length := by rw [hT88, List.length_append]
                  try simp only [List.length_cons, List.length_nil] at hL88
                  have hA88 : aBin prog .add 9 (.val (.string (bs T87))) (.val (.string ⟨#[41]⟩)) = some (.val (.string (bs T88))) := by rw [hT88]; exact addS _ (a := T87) (b := ([41] : List UInt8)) (show _ ≤ 140737488355328 by (try simp only [List.length_cons, List.length_nil]); omega)
                  refine AW.lastl false [8] (by rfl) fun K hK => ?_ -- region 20
                  simp only [go_sem, Nat.reduceAdd, Nat.reduceEqDiff, Nat.reduceLeDiff, true_and, List.length_map, len_row, one_row, A.enc_one, A.enc_len, bs_size, app_get, app_get0, ProgM.enc, NodeM.enc, EqM.enc, VarM.enc, A.node_get84, A.eqc_get81, A.enc_get43, A.node_len, A.node_all, List.drop_succ_cons, List.drop_zero, hA87, hA88]
                  refine hK _ _ fun env' hw => ?_
                  simp only [setL_cons, setL_nil, List.set_cons_zero, List.set_cons_succ] at hw
                  refine hK20 _ _ (AW.weaken hw ?_); clear hw; try clear hK20 K20
                  obtain ⟨T90, hT90⟩ : ∃ z, z = Y ++ ([32, 32] : List UInt8) := ⟨_, rfl⟩
                  have hL90 : T90.length = Y.length + ([32, 32] : List UInt8).length := by rw [hT90, List.length_append]
                  try simp only [List.length_cons, List.length_nil] at hL90
                  have hA90 : aBin prog .add 9 (.val (.string (bs Y))) (.val (.string ⟨#[32, 32]⟩)) = some (.val (.string (bs T90))) := by rw [hT90]; exact addS _ (a := Y) (b := ([32, 32] : List UInt8)) (show _ ≤ 140737488355328 by (try simp only [List.length_cons, List.length_nil]); omega)
                  obtain ⟨T92, hT92⟩ : ∃ z, z = T90 ++ T88 := ⟨_, rfl⟩
                  have hL92 : T92.length = T90.length + T88.length := by rw [hT92, List.length_append]
                  have hA92 : aBin prog .add 9 (.val (.string (bs T90))) (.val (.string (bs T88))) = some (.val (.string (bs T92))) := by rw [hT92]; exact addS _ (a := T90) (b := T88) (show _ ≤ 140737488355328 by (try simp only [List.length_cons, List.length_nil]); omega)
                  obtain ⟨T93, hT93⟩ : ∃ z, z = T92 ++ ([32, 61, 32] : List UInt8) := ⟨_, rfl⟩
                  have hL93 : T93.length = T92.length + ([32, 61, 32] : List UInt8).length := by rw [hT93, List.length_append]
                  try simp only [List.length_cons, List.length_nil] at hL93
                  have hA93 : aBin prog .add 9 (.val (.string (bs T92))) (.val (.string ⟨#[32, 61, 32]⟩)) = some (.val (.string (bs T93))) := by rw [hT93]; exact addS _ (a := T92) (b := ([32, 61, 32] : List UInt8)) (show _ ≤ 140737488355328 by (try simp only [List.length_cons, List.length_nil]); omega)
                  obtain ⟨T97, hT97⟩ : ∃ z, z = T93 ++ XR := ⟨_, rfl⟩
                  have hL97 : T97.length = T93.length + XR.length := by rw [hT97, List.length_append]
                  have hA97 : aBin prog .add 9 (.val (.string (bs T93))) (.val (.string (bs XR))) = some (.val (.string (bs T97))) := by rw [hT97]; exact addS _ (a := T93) (b := XR) (show _ ≤ 140737488355328 by (try simp only [List.length_cons, List.length_nil]); omega)
                  obtain ⟨T98, hT98⟩ : ∃ z, z = T97 ++ ([59, 10] : List UInt8) := ⟨_, rfl⟩
                  have hL98 : T98.length = T97.length + ([59, 10] : List UInt8).length := by rw [hT98, List.length_append]
                  try simp only [List.length_cons, List.length_nil] at hL98
                  have hA98 : aBin prog .add 9 (.val (.string (bs T97))) (.val (.string ⟨#[59, 10]⟩)) = some (.val (.string (bs T98))) := by rw [hT98]; exact addS _ (a := T97) (b := ([59, 10] : List UInt8)) (show _ ≤ 140737488355328 by (try simp only [List.length_cons, List.length_nil]); omega)
                  refine AW.lastl false [3] (by rfl) fun K hK => ?_ -- region 21
                  simp only [go_sem, Nat.reduceAdd, Nat.reduceEqDiff, Nat.reduceLeDiff, true_and, List.length_map, len_row, one_row, A.enc_one, A.enc_len, bs_size, app_get, app_get0, ProgM.enc, NodeM.enc, EqM.enc, VarM.enc, A.node_get84, A.eqc_get81, A.enc_get43, A.node_len, A.node_all, List.drop_succ_cons, List.drop_zero, hA90, hA92, hA93, hA97, hA98]
                  refine sC.of en11 (hrx.on _).here (by rfl) ?_
                  simp only [go_sem, Nat.reduceAdd, Nat.reduceEqDiff, Nat.reduceLeDiff, true_and, List.length_map, len_row, one_row, A.enc_one, A.enc_len, bs_size, app_get, app_get0, ProgM.enc, NodeM.enc, EqM.enc, VarM.enc, A.node_get84, A.eqc_get81, A.enc_get43, A.node_len, A.node_all, List.drop_succ_cons, List.drop_zero, hA90, hA92, hA93, hA97, hA98]
                  refine hK _ _ fun env' hw => ?_
                  simp only [setL_cons, setL_nil, List.set_cons_zero, List.set_cons_succ] at hw
                  refine hK17 _ _ (AW.weaken hw ?_); clear hw; try clear hK17 K17
                  refine AW.lastl false [6] (by rfl) fun K hK => ?_ -- region 12
                  simp only [go_sem, Nat.reduceAdd, Nat.reduceEqDiff, Nat.reduceLeDiff, true_and, List.length_map, len_row, one_row, A.enc_one, A.enc_len, bs_size, app_get, app_get0, ProgM.enc, NodeM.enc, EqM.enc, VarM.enc, A.node_get84, A.eqc_get81, A.enc_get43, A.node_len, A.node_all, List.drop_succ_cons, List.drop_zero]
                  refine hK _ _ fun env' hw => ?_
                  simp only [setL_cons, setL_nil, List.set_cons_zero, List.set_cons_succ] at hw
                  refine ⟨j + 1, by omega, by omega, ?_, ?_⟩
                  · refine hw.trans ?_
                    rw [hflj, hgj]
                    simp [Wk, wrap_succ hj1 hle, hT98, hT97, hT93, hT92, hT90, hY, hXR, eqT, hLT]
                    try (rw [hT88, hT87]; simp)
                  · simp [List.take_append, List.take_of_length_le]
            · skip
              have hgt : ¬ u.lhs.length > 1 := by have h := hc70; simp at h; omega
              have hLT : lhsT u.lhs = u.lhs[0].data.toList := by
                unfold lhsT
                rw [if_neg hgt, ← hD, ← hD0]
                have := inter_first sepC (show 0 < D.length by omega)
                rwa [List.take_of_length_le (by omega)] at this
              refine AW.skip ?_
              refine hK20 _ _ ?_; try clear hK20 K20
              obtain ⟨T90, hT90⟩ : ∃ z, z = Y ++ ([32, 32] : List UInt8) := ⟨_, rfl⟩
              have hL90 : T90.length = Y.length + ([32, 32] : List UInt8).length := by rw [hT90, List.length_append]
              try simp only [List.length_cons, List.length_nil] at hL90
              have hA90 : aBin prog .add 9 (.val (.string (bs Y))) (.val (.string ⟨#[32, 32]⟩)) = some (.val (.string (bs T90))) := by rw [hT90]; exact addS _ (a := Y) (b := ([32, 32] : List UInt8)) (show _ ≤ 140737488355328 by (try simp only [List.length_cons, List.length_nil]); omega)
              obtain ⟨T92, hT92⟩ : ∃ z, z = T90 ++ ((u.lhs[0])).data.toList := ⟨_, rfl⟩
              have hL92 : T92.length = T90.length + ((u.lhs[0])).data.toList.length := by rw [hT92, List.length_append]
              try simp only [List.length_cons, List.length_nil] at hL92
              have hA92 : aBin prog .add 9 (.val (.string (bs T90))) (.val (.string (u.lhs[0]))) = some (.val (.string (bs T92))) := by rw [hT92]; exact addS _ (a := T90) (b := ((u.lhs[0])).data.toList) (show _ ≤ 140737488355328 by (try simp only [List.length_cons, List.length_nil]); omega)
              obtain ⟨T93, hT93⟩ : ∃ z, z = T92 ++ ([32, 61, 32] : List UInt8) := ⟨_, rfl⟩
              have hL93 : T93.length = T92.length + ([32, 61, 32] : List UInt8).length := by rw [hT93, List.length_append]
              try simp only [List.length_cons, List.length_nil] at hL93
              have hA93 : aBin prog .add 9 (.val (.string (bs T92))) (.val (.string ⟨#[32, 61, 32]⟩)) = some (.val (.string (bs T93))) := by rw [hT93]; exact addS _ (a := T92) (b := ([32, 61, 32] : List UInt8)) (show _ ≤ 140737488355328 by (try simp only [List.length_cons, List.length_nil]); omega)
              obtain ⟨T97, hT97⟩ : ∃ z, z = T93 ++ XR := ⟨_, rfl⟩
              have hL97 : T97.length = T93.length + XR.length := by rw [hT97, List.length_append]
              have hA97 : aBin prog .add 9 (.val (.string (bs T93))) (.val (.string (bs XR))) = some (.val (.string (bs T97))) := by rw [hT97]; exact addS _ (a := T93) (b := XR) (show _ ≤ 140737488355328 by (try simp only [List.length_cons, List.length_nil]); omega)
              obtain ⟨T98, hT98⟩ : ∃ z, z = T97 ++ ([59, 10] : List UInt8) := ⟨_, rfl⟩
              have hL98 : T98.length = T97.length + ([59, 10] : List UInt8).length := by rw [hT98, List.length_append]
              try simp only [List.length_cons, List.length_nil] at hL98
              have hA98 : aBin prog .add 9 (.val (.string (bs T97))) (.val (.string ⟨#[59, 10]⟩)) = some (.val (.string (bs T98))) := by rw [hT98]; exact addS _ (a := T97) (b := ([59, 10] : List UInt8)) (show _ ≤ 140737488355328 by (try simp only [List.length_cons, List.length_nil]); omega)
              refine AW.lastl false [3] (by rfl) fun K hK => ?_ -- region 21
              simp only [go_sem, Nat.reduceAdd, Nat.reduceEqDiff, Nat.reduceLeDiff, true_and, List.length_map, len_row, one_row, A.enc_one, A.enc_len, bs_size, app_get, app_get0, ProgM.enc, NodeM.enc, EqM.enc, VarM.enc, A.node_get84, A.eqc_get81, A.enc_get43, A.node_len, A.node_all, List.drop_succ_cons, List.drop_zero, hA90, hA92, hA93, hA97, hA98]
              refine sC.of en11 (hrx.on _).here (by rfl) ?_
              simp only [go_sem, Nat.reduceAdd, Nat.reduceEqDiff, Nat.reduceLeDiff, true_and, List.length_map, len_row, one_row, A.enc_one, A.enc_len, bs_size, app_get, app_get0, ProgM.enc, NodeM.enc, EqM.enc, VarM.enc, A.node_get84, A.eqc_get81, A.enc_get43, A.node_len, A.node_all, List.drop_succ_cons, List.drop_zero, hA90, hA92, hA93, hA97, hA98]
              refine hK _ _ fun env' hw => ?_
              simp only [setL_cons, setL_nil, List.set_cons_zero, List.set_cons_succ] at hw
              refine hK17 _ _ (AW.weaken hw ?_); clear hw; try clear hK17 K17
              refine AW.lastl false [6] (by rfl) fun K hK => ?_ -- region 12
              simp only [go_sem, Nat.reduceAdd, Nat.reduceEqDiff, Nat.reduceLeDiff, true_and, List.length_map, len_row, one_row, A.enc_one, A.enc_len, bs_size, app_get, app_get0, ProgM.enc, NodeM.enc, EqM.enc, VarM.enc, A.node_get84, A.eqc_get81, A.enc_get43, A.node_len, A.node_all, List.drop_succ_cons, List.drop_zero]
              refine hK _ _ fun env' hw => ?_
              simp only [setL_cons, setL_nil, List.set_cons_zero, List.set_cons_succ] at hw
              refine ⟨j + 1, by omega, by omega, ?_, ?_⟩
              · refine hw.trans ?_
                rw [hflj, hgj]
                simp [Wk, wrap_succ hj1 hle, hT98, hT97, hT93, hT92, hT90, hY, hXR, eqT, hLT]
                try (rw [hT88, hT87]; simp)
              · simp [List.take_append, List.take_of_length_le]
          · skip
            have hj1 : j = n.eqs.length := by
              have : ¬ j < n.eqs.length := by simpa using hc55
              omega
            rw [hj1, show (n.eqs.map eqT).take n.eqs.length = n.eqs.map eqT from List.take_of_length_le (by simp)]
            obtain ⟨Y, hY⟩ : ∃ w, w = Z ++ (nodeH n ++ (n.eqs.map eqT).flatten) := ⟨_, rfl⟩
            have hYl : Y.length = Z.length + ((nodeH n).length + (n.eqs.map eqT).flatten.length) := by rw [hY, List.length_append, List.length_append]
            rw [← hY]
            refine AW.exit ?_
            refine hK13 _ _ ?_; try clear hK13 K13
            obtain ⟨T100, hT100⟩ : ∃ z, z = Y ++ ([116, 101, 108, 10] : List UInt8) := ⟨_, rfl⟩
            have hL100 : T100.length = Y.length + ([116, 101, 108, 10] : List UInt8).length := by rw [hT100, List.length_append]
            try simp only [List.length_cons, List.length_nil] at hL100
            have hA100 : aBin prog .add 9 (.val (.string (bs Y))) (.val (.string ⟨#[116, 101, 108, 10]⟩)) = some (.val (.string (bs T100))) := by rw [hT100]; exact addS _ (a := Y) (b := ([116, 101, 108, 10] : List UInt8)) (show _ ≤ 140737488355328 by (try simp only [List.length_cons, List.length_nil]); omega)
            refine AW.lastl false [3] (by rfl) fun K hK => ?_ -- region 22
            simp only [go_sem, Nat.reduceAdd, Nat.reduceEqDiff, Nat.reduceLeDiff, true_and, List.length_map, len_row, one_row, A.enc_one, A.enc_len, bs_size, app_get, app_get0, ProgM.enc, NodeM.enc, EqM.enc, VarM.enc, A.node_get84, A.eqc_get81, A.enc_get43, A.node_len, A.node_all, List.drop_succ_cons, List.drop_zero, hA100]
            refine hK _ _ fun env' hw => ?_
            simp only [setL_cons, setL_nil, List.set_cons_zero, List.set_cons_succ] at hw
            refine hK7 _ _ (AW.weaken hw ?_); clear hw; try clear hK7 K7
            refine AW.lastl false [4] (by rfl) fun K hK => ?_ -- region 4
            simp only [go_sem, Nat.reduceAdd, Nat.reduceEqDiff, Nat.reduceLeDiff, true_and, List.length_map, len_row, one_row, A.enc_one, A.enc_len, bs_size, app_get, app_get0, ProgM.enc, NodeM.enc, EqM.enc, VarM.enc, A.node_get84, A.eqc_get81, A.enc_get43, A.node_len, A.node_all, List.drop_succ_cons, List.drop_zero]
            refine hK _ _ fun env' hw => ?_
            simp only [setL_cons, setL_nil, List.set_cons_zero, List.set_cons_succ] at hw
            refine ⟨i + 1, by omega, by omega, ?_, ?_⟩
            · refine hw.trans ?_
              rw [hfl, hgi]
              simp [Wk, wrap_succ hi1 hl0, hT100, hY, nodeT]
            · simp [List.take_append, List.take_of_length_le]
      · skip
        have hloc : ¬ n.locals.length > 0 := by have h := hc41; simp at h; simp [h]
        refine AW.skip ?_
        refine hK10 _ _ ?_; try clear hK10 K10
        obtain ⟨T50, hT50⟩ : ∃ z, z = T37 ++ ([108, 101, 116, 10] : List UInt8) := ⟨_, rfl⟩
        have hL50 : T50.length = T37.length + ([108, 101, 116, 10] : List UInt8).length := by rw [hT50, List.length_append]
        try simp only [List.length_cons, List.length_nil] at hL50
        have hA50 : aBin prog .add 9 (.val (.string (bs T37))) (.val (.string ⟨#[108, 101, 116, 10]⟩)) = some (.val (.string (bs T50))) := by rw [hT50]; exact addS _ (a := T37) (b := ([108, 101, 116, 10] : List UInt8)) (show _ ≤ 140737488355328 by (try simp only [List.length_cons, List.length_nil]); omega)
        refine AW.regl false [3] (by rfl) fun K27 hK27 => ?_ -- region 9
        simp only [go_sem, Nat.reduceAdd, Nat.reduceEqDiff, Nat.reduceLeDiff, true_and, List.length_map, len_row, one_row, A.enc_one, A.enc_len, bs_size, app_get, app_get0, ProgM.enc, NodeM.enc, EqM.enc, VarM.enc, A.node_get84, A.eqc_get81, A.enc_get43, A.node_len, A.node_all, List.drop_succ_cons, List.drop_zero, hA50]
        refine hK27 _ _ ?_; try clear hK27 K27
        conv => enter [5]; simp only [setL_cons, setL_nil, List.set_cons_zero, List.set_cons_succ]
        refine AW.seq_k fun K28 hK28 => ?_
        refine AW.regl false [6] (by rfl) fun K29 hK29 => ?_ -- region 10
        simp only [go_sem, Nat.reduceAdd, Nat.reduceEqDiff, Nat.reduceLeDiff, true_and, List.length_map, len_row, one_row, A.enc_one, A.enc_len, bs_size, app_get, app_get0, ProgM.enc, NodeM.enc, EqM.enc, VarM.enc, A.node_get84, A.eqc_get81, A.enc_get43, A.node_len, A.node_all, List.drop_succ_cons, List.drop_zero]
        refine hK29 _ _ ?_; try clear hK29 K29
        conv => enter [5]; simp only [setL_cons, setL_nil, List.set_cons_zero, List.set_cons_succ]
        refine AW.block ?_
        refine AW.loop_dr (α := Nat) (fun j => [.any, (.ref σ.length 0), .any, (.val (.string (bs (Z ++ (nodeH n ++ ((n.eqs.map eqT).take j).flatten))))), (.val (.int .i64 ((i : Nat) : Int))), (.ref (σ.length + 1) 0), (.val (.int .i64 ((j : Nat) : Int))), .any, .any, .any, .any, .any, .any, .any, .any, .any, .any, .any, .any, .any, .any, .any, .any, .any, .any, .any, .any, .any, .any, .any, .any, .any, .any, .any, .any, .any, .any, .any, .any, .any, .any, .any, .any, .any, .any, .any, .any, .any, .any, .any, .any, .any, .any, .any, .any, .any, .any, .any, .any, .any, .any, .any, .any, .any, .any, .any, .any, .any, .any, .any, .any, .any, .any, .any, .any, .any, .any, .any, .any, .any, .any, .any, .any, .any, .any, .any, .any, .any, .any, .any, .any, .any, .any, .any, .any, .any, .any, .any, .any, .any, .any, .any]) (fun j => σ ++ [.cells [rowAV 5 p.nl (p.nodes.map NodeM.enc)], .cells [str n.name, rowAV 2 n.nlI (n.ins.map VarM.enc), rowAV 2 n.nlO (n.outs.map VarM.enc), rowAV 2 n.nlL (n.locals.map VarM.enc), rowAV 6 n.nlE (n.eqs.map EqM.enc)]]) (fun j => n.eqs.length - j) (fun j => j ≤ n.eqs.length) 0 ?_ ?_ ?_
        · exact ⟨Nat.zero_le _, by simp [Wk, nodeH, hloc, hT50, hT37, hT36, hT32, hT31, hT27, hT26, hT23, hVI, hVO, hVL], rfl⟩
        · exact fun y _ => ⟨by simp [belL, AV.bel], bel_one⟩
        · intro j hi
          refine AW.seq_k fun K30 hK30 => ?_
          refine AW.regl false [55] (by rfl) fun K31 hK31 => ?_ -- region 11
          simp only [go_sem, Nat.reduceAdd, Nat.reduceEqDiff, Nat.reduceLeDiff, true_and, List.length_map, len_row, one_row, A.enc_one, A.enc_len, bs_size, app_get, app_get0, ProgM.enc, NodeM.enc, EqM.enc, VarM.enc, A.node_get84, A.eqc_get81, A.enc_get43, A.node_len, A.node_all, List.drop_succ_cons, List.drop_zero]
          refine hK31 _ _ ?_; try clear hK31 K31
          conv => enter [5]; simp only [setL_cons, setL_nil, List.set_cons_zero, List.set_cons_succ]
          refine AW.cond rfl (fun hc55 => ?_) (fun hc55 => ?_)
          · skip
            have hj1 : j < n.eqs.length := by simpa using hc55
            have hxe : (n.eqs.map EqM.enc)[j]? = some (EqM.enc (n.eqs[j])) := by rw [List.getElem?_map, List.getElem?_eq_getElem hj1]; rfl
            have hij : j < (n.eqs.map eqT).length := by simpa using hj1
            have hflj := flat_succ hij
            have hgj : (n.eqs.map eqT)[j] = eqT n.eqs[j] := by simp
            have hfj := flat_le (n.eqs.map eqT) (j + 1)
            rw [hflj, hgj, List.length_append] at hfj
            have huq := heq _ (List.getElem_mem hj1)
            have hgu := hgn _ (List.getElem_mem hj1)
            obtain ⟨u, hu⟩ : ∃ z, z = n.eqs[j] := ⟨_, rfl⟩
            rw [← hu] at hxe hgj hfj huq hgu
            obtain ⟨⟨hq1, hq2⟩, hq3, hq4⟩ := eq_right huq
            have hx0 : (u.lhs.map str)[0]? = some (str u.lhs[0]) := by rw [List.getElem?_map, List.getElem?_eq_getElem hq1]; rfl
            obtain ⟨D, hD⟩ : ∃ w, w = u.lhs.map (·.data.toList) := ⟨_, rfl⟩
            have hDl : D.length = u.lhs.length := by rw [hD]; simp
            have hD0 : D[0] = u.lhs[0].data.toList := by simp [hD]
            have heT : (eqT u).length = 2 + (lhsT u.lhs).length + 3 + (tx u.rhs).length + 2 := by simp only [eqT, List.length_append, List.length_cons, List.length_nil]; omega
            have hll : (sepC.intercalate D).length ≤ (lhsT u.lhs).length := by
              unfold lhsT
              rw [← hD]
              split
              · simp only [List.length_append, List.length_cons, List.length_nil]
                omega
              · omega
            have hs2 : sepC.length = 2 := rfl
            have hnm0 := inter_mem sepC (show D[0] ∈ D from List.getElem_mem _)
            rw [hD0] at hnm0
            have hrx := rexpr_calls (Γ := Γ) u.rhs hq4 hgu (by omega)
            obtain ⟨XR, hXR⟩ : ∃ w, w = tx u.rhs := ⟨_, rfl⟩
            rw [← hXR] at hrx heT
            obtain ⟨Y, hY⟩ : ∃ w, w = Z ++ (nodeH n ++ ((n.eqs.map eqT).take j).flatten) := ⟨_, rfl⟩
            have hYl : Y.length = Z.length + ((nodeH n).length + ((n.eqs.map eqT).take j).flatten.length) := by rw [hY, List.length_append, List.length_append]
            rw [← hY]
            refine AW.skip ?_
            refine hK30 _ _ ?_; try clear hK30 K30
            refine AW.seq_k fun K32 hK32 => ?_
            refine AW.block ?_
            refine AW.regl false [7] (by rfl) fun K33 hK33 => ?_ -- region 13
            simp only [go_sem, Nat.reduceAdd, Nat.reduceEqDiff, Nat.reduceLeDiff, true_and, List.length_map, len_row, one_row, A.enc_one, A.enc_len, bs_size, app_get, app_get0, ProgM.enc, NodeM.enc, EqM.enc, VarM.enc, A.node_get84, A.eqc_get81, A.enc_get43, A.node_len, A.node_all, List.drop_succ_cons, List.drop_zero, at_row hxe]
            refine hK33 _ _ ?_; try clear hK33 K33
            conv => enter [5]; simp only [setL_cons, setL_nil, List.set_cons_zero, List.set_cons_succ, upd_none, upd_at]
            refine AW.regl false [8] (by rfl) fun K34 hK34 => ?_ -- region 14
            simp only [go_sem, Nat.reduceAdd, Nat.reduceEqDiff, Nat.reduceLeDiff, true_and, List.length_map, len_row, one_row, A.enc_one, A.enc_len, bs_size, app_get, app_get0, ProgM.enc, NodeM.enc, EqM.enc, VarM.enc, A.node_get84, A.eqc_get81, A.enc_get43, A.node_len, A.node_all, List.drop_succ_cons, List.drop_zero, at_row0 hx0]
            refine hK34 _ _ ?_; try clear hK34 K34
            conv => enter [5]; simp only [setL_cons, setL_nil, List.set_cons_zero, List.set_cons_succ]
            refine AW.seq_k fun K35 hK35 => ?_
            refine AW.regl false [70] (by rfl) fun K36 hK36 => ?_ -- region 15
            simp only [go_sem, Nat.reduceAdd, Nat.reduceEqDiff, Nat.reduceLeDiff, true_and, List.length_map, len_row, one_row, A.enc_one, A.enc_len, bs_size, app_get, app_get0, ProgM.enc, NodeM.enc, EqM.enc, VarM.enc, A.node_get84, A.eqc_get81, A.enc_get43, A.node_len, A.node_all, List.drop_succ_cons, List.drop_zero]
            refine hK36 _ _ ?_; try clear hK36 K36
            conv => enter [5]; simp only [setL_cons, setL_nil, List.set_cons_zero, List.set_cons_succ]
            refine AW.cond rfl (fun hc70 => ?_) (fun hc70 => ?_)
            · skip
              have hgt : u.lhs.length > 1 := by have h := hc70; simp at h; omega
              have hLT : lhsT u.lhs = [40] ++ sepC.intercalate D ++ [41] := by unfold lhsT; rw [if_pos hgt, hD]
              have hLl : (lhsT u.lhs).length = (sepC.intercalate D).length + 2 := by rw [hLT]; simp only [List.length_append, List.length_cons, List.length_nil]; omega
              refine AW.seq_k fun K37 hK37 => ?_
              refine AW.regl false [9] (by rfl) fun K38 hK38 => ?_ -- region 16
              simp only [go_sem, Nat.reduceAdd, Nat.reduceEqDiff, Nat.reduceLeDiff, true_and, List.length_map, len_row, one_row, A.enc_one, A.enc_len, bs_size, app_get, app_get0, ProgM.enc, NodeM.enc, EqM.enc, VarM.enc, A.node_get84, A.eqc_get81, A.enc_get43, A.node_len, A.node_all, List.drop_succ_cons, List.drop_zero]
              refine hK38 _ _ ?_; try clear hK38 K38
              conv => enter [5]; simp only [setL_cons, setL_nil, List.set_cons_zero, List.set_cons_succ]
              refine AW.block ?_
              refine AW.loop_wk (α := Nat) (fun m => [.any, (.ref σ.length 0), .any, (.val (.string (bs Y))), (.val (.int .i64 ((i : Nat) : Int))), (.ref (σ.length + 1) 0), (.val (.int .i64 ((j : Nat) : Int))), (.ref (σ.length + 2) 0), (.val (.string (bs (sepC.intercalate (D.take m))))), (.val (.int .i64 ((m : Nat) : Int))), .any, .any, .any, .any, .any, .any, .any, .any, .any, .any, .any, .any, .any, .any, .any, .any, .any, .any, .any, .any, .any, .any, .any, .any, .any, .any, .any, .any, .any, .any, .any, .any, .any, .any, .any, .any, .any, .any, .any, .any, .any, .any, .any, .any, .any, .any, .any, .any, .any, .any, .any, .any, .any, .any, .any, .any, .any, .any, .any, .any, .any, .any, .any, .any, .any, .any, .any, .any, .any, .any, .any, .any, .any, .any, .any, .any, .any, .any, .any, .any, .any, .any, .any, .any, .any, .any, .any, .any, .any, .any, .any, .any]) (fun m => σ ++ [.cells (ProgM.enc p).cells, .cells (NodeM.enc n).cells, .cells (EqM.enc u).cells]) (fun m => u.lhs.length - m) (fun m => 1 ≤ m ∧ m ≤ u.lhs.length) 1 ?_ ?_
              · exact ⟨⟨Nat.le_refl _, hq1⟩, by simp [Wk, inter_first sepC (show 0 < D.length by omega), hD0, bs_of], rfl⟩
              · rintro m ⟨hm1, hm2⟩
                refine AW.seq_k fun K39 hK39 => ?_
                refine AW.regl false [75] (by rfl) fun K40 hK40 => ?_ -- region 17
                simp only [go_sem, Nat.reduceAdd, Nat.reduceEqDiff, Nat.reduceLeDiff, true_and, List.length_map, len_row, one_row, A.enc_one, A.enc_len, bs_size, app_get, app_get0, ProgM.enc, NodeM.enc, EqM.enc, VarM.enc, A.node_get84, A.eqc_get81, A.enc_get43, A.node_len, A.node_all, List.drop_succ_cons, List.drop_zero]
                refine hK40 _ _ ?_; try clear hK40 K40
                conv => enter [5]; simp only [setL_cons, setL_nil, List.set_cons_zero, List.set_cons_succ]
                refine AW.cond rfl (fun hc75 => ?_) (fun hc75 => ?_)
                · skip
                  have hmm : m < u.lhs.length := by have h := hc75; simp at h; omega
                  have hxm : (u.lhs.map str)[m]? = some (str u.lhs[m]) := by rw [List.getElem?_map, List.getElem?_eq_getElem hmm]; rfl
                  have hmD : m < D.length := by omega
                  have hstm := inter_step sepC hmD hm1
                  have hDm : D[m] = u.lhs[m].data.toList := by simp [hD]
                  rw [hDm] at hstm
                  have hitm := inter_take_le sepC D (m + 1)
                  rw [hstm, List.length_append, List.length_append] at hitm
                  obtain ⟨W, hW⟩ : ∃ w, w = sepC.intercalate (D.take m) := ⟨_, rfl⟩
                  rw [← hW] at hitm
                  rw [← hW]
                  refine AW.skip ?_
                  refine hK39 _ _ ?_; try clear hK39 K39
                  refine AW.seq_k fun K41 hK41 => ?_
                  refine AW.block ?_
                  obtain ⟨T79, hT79⟩ : ∃ z, z = W ++ ([44, 32] : List UInt8) := ⟨_, rfl⟩
                  have hL79 : T79.length = W.length + ([44, 32] : List UInt8).length := by rw [hT79, List.length_append]
                  try simp only [List.length_cons, List.length_nil] at hL79
                  have hA79 : aBin prog .add 9 (.val (.string (bs W))) (.val (.string ⟨#[44, 32]⟩)) = some (.val (.string (bs T79))) := by rw [hT79]; exact addS _ (a := W) (b := ([44, 32] : List UInt8)) (show _ ≤ 140737488355328 by (try simp only [List.length_cons, List.length_nil]); omega)
                  obtain ⟨T85, hT85⟩ : ∃ z, z = T79 ++ ((u.lhs[m])).data.toList := ⟨_, rfl⟩
                  have hL85 : T85.length = T79.length + ((u.lhs[m])).data.toList.length := by rw [hT85, List.length_append]
                  try simp only [List.length_cons, List.length_nil] at hL85
                  have hA85 : aBin prog .add 9 (.val (.string (bs T79))) (.val (.string (u.lhs[m]))) = some (.val (.string (bs T85))) := by rw [hT85]; exact addS _ (a := T79) (b := ((u.lhs[m])).data.toList) (show _ ≤ 140737488355328 by (try simp only [List.length_cons, List.length_nil]); omega)
                  refine AW.lastl false [8] (by rfl) fun K hK => ?_ -- region 19
                  simp only [go_sem, Nat.reduceAdd, Nat.reduceEqDiff, Nat.reduceLeDiff, true_and, List.length_map, len_row, one_row, A.enc_one, A.enc_len, bs_size, app_get, app_get0, ProgM.enc, NodeM.enc, EqM.enc, VarM.enc, A.node_get84, A.eqc_get81, A.enc_get43, A.node_len, A.node_all, List.drop_succ_cons, List.drop_zero, at_row hxm, hA79, hA85]
                  refine hK _ _ fun env' hw => ?_
                  simp only [setL_cons, setL_nil, List.set_cons_zero, List.set_cons_succ] at hw
                  refine hK41 _ _ (AW.weaken hw ?_); clear hw; try clear hK41 K41
                  refine AW.lastl false [9] (by rfl) fun K hK => ?_ -- region 18
                  simp only [go_sem, Nat.reduceAdd, Nat.reduceEqDiff, Nat.reduceLeDiff, true_and, List.length_map, len_row, one_row, A.enc_one, A.enc_len, bs_size, app_get, app_get0, ProgM.enc, NodeM.enc, EqM.enc, VarM.enc, A.node_get84, A.eqc_get81, A.enc_get43, A.node_len, A.node_all, List.drop_succ_cons, List.drop_zero]
                  refine hK _ _ fun env' hw => ?_
                  simp only [setL_cons, setL_nil, List.set_cons_zero, List.set_cons_succ] at hw
                  refine ⟨m + 1, by omega, by omega, ?_, rfl⟩
                  refine hw.trans ?_
                  rw [hstm, ← hW]
                  simp [Wk, wrap_succ hmm (show u.lhs.length ≤ maxLen by rw [maxLen_eq]; omega), hT85, hT79, sepC]
                · skip
                  have hmm : m = u.lhs.length := by have h := hc75; simp at h; omega
                  rw [show D.take m = D from List.take_of_length_le (by omega)]
                  obtain ⟨W, hW⟩ : ∃ w, w = sepC.intercalate D := ⟨_, rfl⟩
                  rw [← hW] at hll hLl hLT
                  rw [← hW]
                  refine AW.exit ?_
                  refine hK37 _ _ ?_; try clear hK37 K37
                  obtain ⟨T87, hT87⟩ : ∃ z, z = ([40] : List UInt8) ++ W := ⟨_, rfl⟩
                  have hL87 : T87.length = ([40] : List UInt8).length + W.length := by rw [hT87, List.length_append]
                  try simp only [List.length_cons, List.length_nil] at hL87
                  have hA87 : aBin prog .add 9 (.val (.string ⟨#[40]⟩)) (.val (.string (bs W))) = some (.val (.string (bs T87))) := by rw [hT87]; exact addS _ (a := ([40] : List UInt8)) (b := W) (show _ ≤ 140737488355328 by (try simp only [List.length_cons, List.length_nil]); omega)
                  obtain ⟨T88, hT88⟩ : ∃ z, z = T87 ++ ([41] : List UInt8) := ⟨_, rfl⟩
                  have hL88 : T88.length = T87.length + ([41] : List UInt8).length := by rw [hT88, List.length_append]
                  try simp only [List.length_cons, List.length_nil] at hL88
                  have hA88 : aBin prog .add 9 (.val (.string (bs T87))) (.val (.string ⟨#[41]⟩)) = some (.val (.string (bs T88))) := by rw [hT88]; exact addS _ (a := T87) (b := ([41] : List UInt8)) (show _ ≤ 140737488355328 by (try simp only [List.length_cons, List.length_nil]); omega)
                  refine AW.lastl false [8] (by rfl) fun K hK => ?_ -- region 20
                  simp only [go_sem, Nat.reduceAdd, Nat.reduceEqDiff, Nat.reduceLeDiff, true_and, List.length_map, len_row, one_row, A.enc_one, A.enc_len, bs_size, app_get, app_get0, ProgM.enc, NodeM.enc, EqM.enc, VarM.enc, A.node_get84, A.eqc_get81, A.enc_get43, A.node_len, A.node_all, List.drop_succ_cons, List.drop_zero, hA87, hA88]
                  refine hK _ _ fun env' hw => ?_
                  simp only [setL_cons, setL_nil, List.set_cons_zero, List.set_cons_succ] at hw
                  refine hK35 _ _ (AW.weaken hw ?_); clear hw; try clear hK35 K35
                  obtain ⟨T90, hT90⟩ : ∃ z, z = Y ++ ([32, 32] : List UInt8) := ⟨_, rfl⟩
                  have hL90 : T90.length = Y.length + ([32, 32] : List UInt8).length := by rw [hT90, List.length_append]
                  try simp only [List.length_cons, List.length_nil] at hL90
                  have hA90 : aBin prog .add 9 (.val (.string (bs Y))) (.val (.string ⟨#[32, 32]⟩)) = some (.val (.string (bs T90))) := by rw [hT90]; exact addS _ (a := Y) (b := ([32, 32] : List UInt8)) (show _ ≤ 140737488355328 by (try simp only [List.length_cons, List.length_nil]); omega)
                  obtain ⟨T92, hT92⟩ : ∃ z, z = T90 ++ T88 := ⟨_, rfl⟩
                  have hL92 : T92.length = T90.length + T88.length := by rw [hT92, List.length_append]
                  have hA92 : aBin prog .add 9 (.val (.string (bs T90))) (.val (.string (bs T88))) = some (.val (.string (bs T92))) := by rw [hT92]; exact addS _ (a := T90) (b := T88) (show _ ≤ 140737488355328 by (try simp only [List.length_cons, List.length_nil]); omega)
                  obtain ⟨T93, hT93⟩ : ∃ z, z = T92 ++ ([32, 61, 32] : List UInt8) := ⟨_, rfl⟩
                  have hL93 : T93.length = T92.length + ([32, 61, 32] : List UInt8).length := by rw [hT93, List.length_append]
                  try simp only [List.length_cons, List.length_nil] at hL93
                  have hA93 : aBin prog .add 9 (.val (.string (bs T92))) (.val (.string ⟨#[32, 61, 32]⟩)) = some (.val (.string (bs T93))) := by rw [hT93]; exact addS _ (a := T92) (b := ([32, 61, 32] : List UInt8)) (show _ ≤ 140737488355328 by (try simp only [List.length_cons, List.length_nil]); omega)
                  obtain ⟨T97, hT97⟩ : ∃ z, z = T93 ++ XR := ⟨_, rfl⟩
                  have hL97 : T97.length = T93.length + XR.length := by rw [hT97, List.length_append]
                  have hA97 : aBin prog .add 9 (.val (.string (bs T93))) (.val (.string (bs XR))) = some (.val (.string (bs T97))) := by rw [hT97]; exact addS _ (a := T93) (b := XR) (show _ ≤ 140737488355328 by (try simp only [List.length_cons, List.length_nil]); omega)
                  obtain ⟨T98, hT98⟩ : ∃ z, z = T97 ++ ([59, 10] : List UInt8) := ⟨_, rfl⟩
                  have hL98 : T98.length = T97.length + ([59, 10] : List UInt8).length := by rw [hT98, List.length_append]
                  try simp only [List.length_cons, List.length_nil] at hL98
                  have hA98 : aBin prog .add 9 (.val (.string (bs T97))) (.val (.string ⟨#[59, 10]⟩)) = some (.val (.string (bs T98))) := by rw [hT98]; exact addS _ (a := T97) (b := ([59, 10] : List UInt8)) (show _ ≤ 140737488355328 by (try simp only [List.length_cons, List.length_nil]); omega)
                  refine AW.lastl false [3] (by rfl) fun K hK => ?_ -- region 21
                  simp only [go_sem, Nat.reduceAdd, Nat.reduceEqDiff, Nat.reduceLeDiff, true_and, List.length_map, len_row, one_row, A.enc_one, A.enc_len, bs_size, app_get, app_get0, ProgM.enc, NodeM.enc, EqM.enc, VarM.enc, A.node_get84, A.eqc_get81, A.enc_get43, A.node_len, A.node_all, List.drop_succ_cons, List.drop_zero, hA90, hA92, hA93, hA97, hA98]
                  refine sC.of en11 (hrx.on _).here (by rfl) ?_
                  simp only [go_sem, Nat.reduceAdd, Nat.reduceEqDiff, Nat.reduceLeDiff, true_and, List.length_map, len_row, one_row, A.enc_one, A.enc_len, bs_size, app_get, app_get0, ProgM.enc, NodeM.enc, EqM.enc, VarM.enc, A.node_get84, A.eqc_get81, A.enc_get43, A.node_len, A.node_all, List.drop_succ_cons, List.drop_zero, hA90, hA92, hA93, hA97, hA98]
                  refine hK _ _ fun env' hw => ?_
                  simp only [setL_cons, setL_nil, List.set_cons_zero, List.set_cons_succ] at hw
                  refine hK32 _ _ (AW.weaken hw ?_); clear hw; try clear hK32 K32
                  refine AW.lastl false [6] (by rfl) fun K hK => ?_ -- region 12
                  simp only [go_sem, Nat.reduceAdd, Nat.reduceEqDiff, Nat.reduceLeDiff, true_and, List.length_map, len_row, one_row, A.enc_one, A.enc_len, bs_size, app_get, app_get0, ProgM.enc, NodeM.enc, EqM.enc, VarM.enc, A.node_get84, A.eqc_get81, A.enc_get43, A.node_len, A.node_all, List.drop_succ_cons, List.drop_zero]
                  refine hK _ _ fun env' hw => ?_
                  simp only [setL_cons, setL_nil, List.set_cons_zero, List.set_cons_succ] at hw
                  refine ⟨j + 1, by omega, by omega, ?_, ?_⟩
                  · refine hw.trans ?_
                    rw [hflj, hgj]
                    simp [Wk, wrap_succ hj1 hle, hT98, hT97, hT93, hT92, hT90, hY, hXR, eqT, hLT]
                    try (rw [hT88, hT87]; simp)
                  · simp [List.take_append, List.take_of_length_le]
            · skip
              have hgt : ¬ u.lhs.length > 1 := by have h := hc70; simp at h; omega
              have hLT : lhsT u.lhs = u.lhs[0].data.toList := by
                unfold lhsT
                rw [if_neg hgt, ← hD, ← hD0]
                have := inter_first sepC (show 0 < D.length by omega)
                rwa [List.take_of_length_le (by omega)] at this
              refine AW.skip ?_
              refine hK35 _ _ ?_; try clear hK35 K35
              obtain ⟨T90, hT90⟩ : ∃ z, z = Y ++ ([32, 32] : List UInt8) := ⟨_, rfl⟩
              have hL90 : T90.length = Y.length + ([32, 32] : List UInt8).length := by rw [hT90, List.length_append]
              try simp only [List.length_cons, List.length_nil] at hL90
              have hA90 : aBin prog .add 9 (.val (.string (bs Y))) (.val (.string ⟨#[32, 32]⟩)) = some (.val (.string (bs T90))) := by rw [hT90]; exact addS _ (a := Y) (b := ([32, 32] : List UInt8)) (show _ ≤ 140737488355328 by (try simp only [List.length_cons, List.length_nil]); omega)
              obtain ⟨T92, hT92⟩ : ∃ z, z = T90 ++ ((u.lhs[0])).data.toList := ⟨_, rfl⟩
              have hL92 : T92.length = T90.length + ((u.lhs[0])).data.toList.length := by rw [hT92, List.length_append]
              try simp only [List.length_cons, List.length_nil] at hL92
              have hA92 : aBin prog .add 9 (.val (.string (bs T90))) (.val (.string (u.lhs[0]))) = some (.val (.string (bs T92))) := by rw [hT92]; exact addS _ (a := T90) (b := ((u.lhs[0])).data.toList) (show _ ≤ 140737488355328 by (try simp only [List.length_cons, List.length_nil]); omega)
              obtain ⟨T93, hT93⟩ : ∃ z, z = T92 ++ ([32, 61, 32] : List UInt8) := ⟨_, rfl⟩
              have hL93 : T93.length = T92.length + ([32, 61, 32] : List UInt8).length := by rw [hT93, List.length_append]
              try simp only [List.length_cons, List.length_nil] at hL93
              have hA93 : aBin prog .add 9 (.val (.string (bs T92))) (.val (.string ⟨#[32, 61, 32]⟩)) = some (.val (.string (bs T93))) := by rw [hT93]; exact addS _ (a := T92) (b := ([32, 61, 32] : List UInt8)) (show _ ≤ 140737488355328 by (try simp only [List.length_cons, List.length_nil]); omega)
              obtain ⟨T97, hT97⟩ : ∃ z, z = T93 ++ XR := ⟨_, rfl⟩
              have hL97 : T97.length = T93.length + XR.length := by rw [hT97, List.length_append]
              have hA97 : aBin prog .add 9 (.val (.string (bs T93))) (.val (.string (bs XR))) = some (.val (.string (bs T97))) := by rw [hT97]; exact addS _ (a := T93) (b := XR) (show _ ≤ 140737488355328 by (try simp only [List.length_cons, List.length_nil]); omega)
              obtain ⟨T98, hT98⟩ : ∃ z, z = T97 ++ ([59, 10] : List UInt8) := ⟨_, rfl⟩
              have hL98 : T98.length = T97.length + ([59, 10] : List UInt8).length := by rw [hT98, List.length_append]
              try simp only [List.length_cons, List.length_nil] at hL98
              have hA98 : aBin prog .add 9 (.val (.string (bs T97))) (.val (.string ⟨#[59, 10]⟩)) = some (.val (.string (bs T98))) := by rw [hT98]; exact addS _ (a := T97) (b := ([59, 10] : List UInt8)) (show _ ≤ 140737488355328 by (try simp only [List.length_cons, List.length_nil]); omega)
              refine AW.lastl false [3] (by rfl) fun K hK => ?_ -- region 21
              simp only [go_sem, Nat.reduceAdd, Nat.reduceEqDiff, Nat.reduceLeDiff, true_and, List.length_map, len_row, one_row, A.enc_one, A.enc_len, bs_size, app_get, app_get0, ProgM.enc, NodeM.enc, EqM.enc, VarM.enc, A.node_get84, A.eqc_get81, A.enc_get43, A.node_len, A.node_all, List.drop_succ_cons, List.drop_zero, hA90, hA92, hA93, hA97, hA98]
              refine sC.of en11 (hrx.on _).here (by rfl) ?_
              simp only [go_sem, Nat.reduceAdd, Nat.reduceEqDiff, Nat.reduceLeDiff, true_and, List.length_map, len_row, one_row, A.enc_one, A.enc_len, bs_size, app_get, app_get0, ProgM.enc, NodeM.enc, EqM.enc, VarM.enc, A.node_get84, A.eqc_get81, A.enc_get43, A.node_len, A.node_all, List.drop_succ_cons, List.drop_zero, hA90, hA92, hA93, hA97, hA98]
              refine hK _ _ fun env' hw => ?_
              simp only [setL_cons, setL_nil, List.set_cons_zero, List.set_cons_succ] at hw
              refine hK32 _ _ (AW.weaken hw ?_); clear hw; try clear hK32 K32
              refine AW.lastl false [6] (by rfl) fun K hK => ?_ -- region 12
              simp only [go_sem, Nat.reduceAdd, Nat.reduceEqDiff, Nat.reduceLeDiff, true_and, List.length_map, len_row, one_row, A.enc_one, A.enc_len, bs_size, app_get, app_get0, ProgM.enc, NodeM.enc, EqM.enc, VarM.enc, A.node_get84, A.eqc_get81, A.enc_get43, A.node_len, A.node_all, List.drop_succ_cons, List.drop_zero]
              refine hK _ _ fun env' hw => ?_
              simp only [setL_cons, setL_nil, List.set_cons_zero, List.set_cons_succ] at hw
              refine ⟨j + 1, by omega, by omega, ?_, ?_⟩
              · refine hw.trans ?_
                rw [hflj, hgj]
                simp [Wk, wrap_succ hj1 hle, hT98, hT97, hT93, hT92, hT90, hY, hXR, eqT, hLT]
                try (rw [hT88, hT87]; simp)
              · simp [List.take_append, List.take_of_length_le]
          · skip
            have hj1 : j = n.eqs.length := by
              have : ¬ j < n.eqs.length := by simpa using hc55
              omega
            rw [hj1, show (n.eqs.map eqT).take n.eqs.length = n.eqs.map eqT from List.take_of_length_le (by simp)]
            obtain ⟨Y, hY⟩ : ∃ w, w = Z ++ (nodeH n ++ (n.eqs.map eqT).flatten) := ⟨_, rfl⟩
            have hYl : Y.length = Z.length + ((nodeH n).length + (n.eqs.map eqT).flatten.length) := by rw [hY, List.length_append, List.length_append]
            rw [← hY]
            refine AW.exit ?_
            refine hK28 _ _ ?_; try clear hK28 K28
            obtain ⟨T100, hT100⟩ : ∃ z, z = Y ++ ([116, 101, 108, 10] : List UInt8) := ⟨_, rfl⟩
            have hL100 : T100.length = Y.length + ([116, 101, 108, 10] : List UInt8).length := by rw [hT100, List.length_append]
            try simp only [List.length_cons, List.length_nil] at hL100
            have hA100 : aBin prog .add 9 (.val (.string (bs Y))) (.val (.string ⟨#[116, 101, 108, 10]⟩)) = some (.val (.string (bs T100))) := by rw [hT100]; exact addS _ (a := Y) (b := ([116, 101, 108, 10] : List UInt8)) (show _ ≤ 140737488355328 by (try simp only [List.length_cons, List.length_nil]); omega)
            refine AW.lastl false [3] (by rfl) fun K hK => ?_ -- region 22
            simp only [go_sem, Nat.reduceAdd, Nat.reduceEqDiff, Nat.reduceLeDiff, true_and, List.length_map, len_row, one_row, A.enc_one, A.enc_len, bs_size, app_get, app_get0, ProgM.enc, NodeM.enc, EqM.enc, VarM.enc, A.node_get84, A.eqc_get81, A.enc_get43, A.node_len, A.node_all, List.drop_succ_cons, List.drop_zero, hA100]
            refine hK _ _ fun env' hw => ?_
            simp only [setL_cons, setL_nil, List.set_cons_zero, List.set_cons_succ] at hw
            refine hK7 _ _ (AW.weaken hw ?_); clear hw; try clear hK7 K7
            refine AW.lastl false [4] (by rfl) fun K hK => ?_ -- region 4
            simp only [go_sem, Nat.reduceAdd, Nat.reduceEqDiff, Nat.reduceLeDiff, true_and, List.length_map, len_row, one_row, A.enc_one, A.enc_len, bs_size, app_get, app_get0, ProgM.enc, NodeM.enc, EqM.enc, VarM.enc, A.node_get84, A.eqc_get81, A.enc_get43, A.node_len, A.node_all, List.drop_succ_cons, List.drop_zero]
            refine hK _ _ fun env' hw => ?_
            simp only [setL_cons, setL_nil, List.set_cons_zero, List.set_cons_succ] at hw
            refine ⟨i + 1, by omega, by omega, ?_, ?_⟩
            · refine hw.trans ?_
              rw [hfl, hgi]
              simp [Wk, wrap_succ hi1 hl0, hT100, hY, nodeT]
            · simp [List.take_append, List.take_of_length_le]
    · skip
      have hi1 : i = p.nodes.length := by
        have : ¬ i < p.nodes.length := by simpa using hc14
        omega
      rw [hi1, show (p.nodes.map nodeT).take p.nodes.length = p.nodes.map nodeT from List.take_of_length_le (by simp)]
      refine AW.exit ?_
      refine hK3 _ _ ?_; try clear hK3 K3
      refine AW.regl false [2] (by rfl) fun K42 hK42 => ?_ -- region 23
      simp only [go_sem, Nat.reduceAdd, Nat.reduceEqDiff, Nat.reduceLeDiff, true_and, List.length_map, len_row, one_row, A.enc_one, A.enc_len, bs_size, app_get, app_get0, ProgM.enc, NodeM.enc, EqM.enc, VarM.enc, A.node_get84, A.eqc_get81, A.enc_get43, A.node_len, A.node_all, List.drop_succ_cons, List.drop_zero]
      refine hK42 _ _ ?_; try clear hK42 K42
      conv => enter [5]; simp only [setL_cons, setL_nil, List.set_cons_zero, List.set_cons_succ]
      refine AW.ret ⟨.inr rfl, _, rfl, by simp, ?_⟩ -- return 1
      exact .keep rfl
end Pr
end Go.Proofs.Tryd
/-! Printing: function 12. -/
namespace Go.Proofs.Tryd
set_option linter.unusedSimpArgs false
set_option linter.unusedVariables false
open Go Go.Proofs.Ev
namespace Pr
variable {Γ : List (Nat × List AV)}
set_option maxRecDepth 100000 in
open A (E VarM EqM NodeM ProgM) in
theorem text_calls {w : AV} (hΓ : A.Words (GP w)) (e : E) (hz : e.size < 9223372036854775807) (hft : e.fits) (hg : ∀ d ∈ e.pre, rng d) (hb : A.exprR e = true → (tx e).length ≤ LIM) : APure prog (GP w) 12 [E.enc e] (str (bs (if A.exprR e then tx e else []))) := by
  refine APure.of func12 rfl fun σ => ?_
  simp only [ntmps12, List.length_cons, List.length_nil, Nat.reduceAdd, Nat.reduceSub, List.replicate_succ, List.replicate_zero, List.cons_append, List.nil_append]
  have hrx : APure prog (GP w) 28 [e.enc] (A.bool (A.exprR e)) := by
    have := A.right_calls hΓ e (by omega) hft
    rwa [← A.shape_pre] at this
  refine AW.regl false [1, 2] (by rfl) fun K1 hK1 => ?_ -- region 0
  simp only [go_sem, Nat.reduceAdd, Nat.reduceEqDiff, Nat.reduceLeDiff, true_and, List.length_map, len_row, one_row, A.enc_one, A.enc_len, pb_geta, pb_geta0, pb_seta, pb_seta0, pb_len, bs_size, app_get, app_get0, A.enc_get47]
  refine hK1 _ _ ?_; try clear hK1 K1
  conv => enter [5]; simp only [setL_cons, setL_nil, List.set_cons_zero, List.set_cons_succ]
  refine AW.seq_k fun K2 hK2 => ?_
  refine AW.regl false [6] (by rfl) fun K3 hK3 => ?_ -- region 1
  simp only [go_sem, Nat.reduceAdd, Nat.reduceEqDiff, Nat.reduceLeDiff, true_and, List.length_map, len_row, one_row, A.enc_one, A.enc_len, pb_geta, pb_geta0, pb_seta, pb_seta0, pb_len, bs_size, app_get, app_get0, A.enc_get47]
  refine sC.of en28 (hrx.on _).here (by rfl) ?_
  simp only [go_sem, Nat.reduceAdd, Nat.reduceEqDiff, Nat.reduceLeDiff, true_and, List.length_map, len_row, one_row, A.enc_one, A.enc_len, pb_geta, pb_geta0, pb_seta, pb_seta0, pb_len, bs_size, app_get, app_get0, A.enc_get47]
  refine hK3 _ _ ?_; try clear hK3 K3
  conv => enter [5]; simp only [setL_cons, setL_nil, List.set_cons_zero, List.set_cons_succ]
  refine AW.cond rfl (fun hc6 => ?_) (fun hc6 => ?_)
  · skip
    have hc : A.exprR e = false := by simpa using hc6
    refine AW.regl false [2] (by rfl) fun K4 hK4 => ?_ -- region 2
    simp only [go_sem, Nat.reduceAdd, Nat.reduceEqDiff, Nat.reduceLeDiff, true_and, List.length_map, len_row, one_row, A.enc_one, A.enc_len, pb_geta, pb_geta0, pb_seta, pb_seta0, pb_len, bs_size, app_get, app_get0, A.enc_get47]
    refine hK4 _ _ ?_; try clear hK4 K4
    conv => enter [5]; simp only [setL_cons, setL_nil, List.set_cons_zero, List.set_cons_succ]
    refine AW.ret ⟨.inr rfl, _, rfl, by simp, ?_⟩ -- return 1
    rw [hc, if_neg (by simp)]
    exact .keep rfl
  · skip
    have hc : A.exprR e = true := by simpa using hc6
    have hs : e.shape = true := by simp only [A.exprR, Bool.and_eq_true] at hc; exact hc.1
    refine AW.skip ?_
    refine hK2 _ _ ?_; try clear hK2 K2
    refine AW.seq (AW.region ?_) -- the builder
    refine AOps.allocS rfl rfl zero59 rfl ?_
    refine AOps.nil ?_
    simp only [aput, List.length_append, List.length_cons, List.length_nil, Nat.zero_add, List.set_cons_zero, List.set_cons_succ, List.append_assoc, List.cons_append, List.nil_append]
    show AW _ _ _ _ _ (σ ++ [.cells e.enc.cells, .cells [.val (.pointer none), .nilsl], .gh (.shp (σ.length + 1) 59 2)]) _
    refine AW.cap 1 ?_
    simp only [List.append_assoc, List.cons_append, List.nil_append]
    refine AW.own (σ.length + 1) 1 (σ.length + 3) ((app_get σ _ 1).trans rfl) rfl ((app_get σ _ 3).trans rfl) (by decide) ?_
    simp only [app_set, List.set_cons_zero, List.set_cons_succ]
    refine AW.cty0 (σ.length + 3) 5 (sz := 1) ((app_get σ _ 3).trans rfl) ?_
    simp only [List.append_assoc, List.cons_append, List.nil_append]
    show AW _ _ _ _ _ (σ ++ [.cells e.enc.cells, .cells (bp (σ.length + 1) false []), .gh (.shp (σ.length + 1) 59 2), .cap ([] : List UInt8).length 1, .gh (.cty (σ.length + 1 + 2) ([] : List UInt8).length 5)]) _
    refine AW.regl false [] (by rfl) fun K6 hK6 => ?_ -- region 4
    simp only [go_sem, Nat.reduceAdd, Nat.reduceEqDiff, Nat.reduceLeDiff, true_and, List.length_map, len_row, one_row, A.enc_one, A.enc_len, pb_geta, pb_geta0, pb_seta, pb_seta0, pb_len, bs_size, app_get, app_get0, A.enc_get47]
    refine sC.ofR en29 (at_L σ _ _ (fun τ hτ => expr_ok e hs hg τ _ hτ false [] (by simpa using hb hc))) (fun v' σ' hR => ?_)
    obtain ⟨rfl, rfl⟩ := hR
    simp only [go_sem, Nat.reduceAdd, Nat.reduceEqDiff, Nat.reduceLeDiff, true_and, List.length_map, len_row, one_row, A.enc_one, A.enc_len, pb_geta, pb_geta0, pb_seta, pb_seta0, pb_len, bs_size, app_get, app_get0, A.enc_get47]
    refine hK6 _ _ ?_; try clear hK6 K6
    conv => enter [5]; simp only [setL_cons, setL_nil, List.set_cons_zero, List.set_cons_succ]
    refine AW.regl false [2] (by rfl) fun K7 hK7 => ?_ -- region 5
    simp only [go_sem, Nat.reduceAdd, Nat.reduceEqDiff, Nat.reduceLeDiff, true_and, List.length_map, len_row, one_row, A.enc_one, A.enc_len, pb_geta, pb_geta0, pb_seta, pb_seta0, pb_len, bs_size, app_get, app_get0, A.enc_get47]
    refine sC.ofR en17 (at_L σ _ _ (fun τ hτ => string_calls hτ true ([] ++ tx e))) (fun v' σ' hR => ?_)
    obtain ⟨rfl, rfl⟩ := hR
    simp only [go_sem, Nat.reduceAdd, Nat.reduceEqDiff, Nat.reduceLeDiff, true_and, List.length_map, len_row, one_row, A.enc_one, A.enc_len, pb_geta, pb_geta0, pb_seta, pb_seta0, pb_len, bs_size, app_get, app_get0, A.enc_get47]
    refine hK7 _ _ ?_; try clear hK7 K7
    conv => enter [5]; simp only [setL_cons, setL_nil, List.set_cons_zero, List.set_cons_succ]
    refine AW.ret ⟨.inr rfl, _, rfl, by simp, ?_⟩ -- return 2
    rw [hc, if_pos rfl]
    exact .keep rfl
end Pr
end Go.Proofs.Tryd
/-! Printing: the law's own functions. -/
namespace Go.Proofs.Tryd
set_option linter.unusedSimpArgs false
set_option linter.unusedVariables false
open Go Go.Proofs.Ev
namespace Pr
variable {Γ : List (Nat × List AV)}
open A (E VarM EqM NodeM ProgM) in
def nt (x : E) : E := .mk 3 0 0 ⟨#[]⟩ false [x]
open A (E VarM EqM NodeM ProgM) in
def n1 : E := .mk 0 0 1 ⟨#[]⟩ true []
set_option maxRecDepth 100000 in
open A (E VarM EqM NodeM ProgM) in
theorem neg_calls (x : E) : APure prog Γ 30 [E.enc x] (E.enc (nt x)) := by
  refine APure.of func30 rfl fun σ => ?_
  simp only [ntmps30, List.length_cons, List.length_nil, Nat.reduceAdd, Nat.reduceSub, List.replicate_succ, List.replicate_zero, List.cons_append, List.nil_append]
  refine AW.regl false [1, 2] (by rfl) fun K1 hK1 => ?_ -- region 0
  simp only [go_sem, Nat.reduceAdd, Nat.reduceEqDiff, Nat.reduceLeDiff, true_and, List.length_map, len_row, one_row, A.enc_one, A.enc_len, A.enc_get43, A.enc_get47, bs_size, app_get, app_get0]
  refine hK1 _ _ ?_; try clear hK1 K1
  conv => enter [5]; simp only [setL_cons, setL_nil, List.set_cons_zero, List.set_cons_succ]
  refine AW.regl false [] (by rfl) fun K2 hK2 => ?_ -- region 1
  simp only [go_sem, Nat.reduceAdd, Nat.reduceEqDiff, Nat.reduceLeDiff, true_and, List.length_map, len_row, one_row, A.enc_one, A.enc_len, A.enc_get43, A.enc_get47, bs_size, app_get, app_get0, row1_41 _ _ (A.enc_len x) (A.enc_one x)]
  refine hK2 _ _ ?_; try clear hK2 K2
  conv => enter [5]; simp only [setL_cons, setL_nil, List.set_cons_zero, List.set_cons_succ, upd_none, upd_at]
  have hv : E.enc (nt x) = .agg [i64 3, i64 0, i64 0, str ⟨#[]⟩, .sl 5 [x.enc]] := by rw [nt, E.enc_mk]; rfl
  refine AW.ret ⟨.inr rfl, _, ret_cell (v := E.enc (nt x)) rfl ((load_app σ _ 43 1 0).trans (by rw [hv]; simp only [go_sem, aLoadAt] <;> rfl)), by simp, ?_⟩
  exact .keep (A.enc_bel _ _)
open A (E VarM EqM NodeM ProgM) in
theorem n1_tx : tx (nt (nt n1)) = [45, 32, 45, 49] := by
  have h : tx n1 = [49] := by
    rw [n1, tx_mk]
    show Lib.itoa 1 = [49]
    rw [Lib.itoa, if_neg (by decide)]
    show Lib.decDigits 1 = [49]
    rw [Lib.decDigits, dif_pos (by decide)]
    rfl
  rw [nt, tx_mk, nt]
  show unPre 0 (nt n1) ++ oper (nt n1) 7 (tx (nt n1)) = _
  rw [nt, tx_mk]
  show _ ++ oper _ 7 (unPre 0 n1 ++ oper n1 7 (tx n1)) = _
  rw [h]
  rfl
open A (E VarM EqM NodeM ProgM) in
theorem n1_R : A.exprR (nt (nt n1)) = true := by decide
end Pr
end Go.Proofs.Tryd
/-! Printing: function 14. -/
namespace Go.Proofs.Tryd
set_option linter.unusedSimpArgs false
set_option linter.unusedVariables false
open Go Go.Proofs.Ev
namespace Pr
variable {Γ : List (Nat × List AV)}
set_option maxRecDepth 100000 in
open A (E VarM EqM NodeM ProgM) in
set_option maxHeartbeats 1000000 in
theorem pawake_calls {w : AV} (hΓ : A.Words (GP w)) : APure prog (GP w) 14 [] (.val (.bool true)) := by
  refine APure.of func14 rfl fun σ => ?_
  simp only [ntmps14, List.length_cons, List.length_nil, Nat.reduceAdd, Nat.reduceSub, List.replicate_succ, List.replicate_zero, List.cons_append, List.nil_append]
  have htx : APure prog (GP w) 12 [E.enc (nt (nt n1))] (str (bs [45, 32, 45, 49])) := by
    have := text_calls hΓ (nt (nt n1)) (by decide) (by intro d hd; simp [nt, n1, E.pre, A.preL] at hd; rcases hd with rfl | rfl | rfl <;> simp [E.fit, ByteArray.size]) (by intro d hd; simp [nt, n1, E.pre, A.preL] at hd; rcases hd with rfl | rfl | rfl <;> simp [rng]) (fun _ => by rw [n1_tx]; decide)
    rwa [n1_R, if_pos rfl, n1_tx] at this
  have hn1 : AV.agg [i64 0, i64 0, i64 1, str ⟨#[]⟩, .nilsl] = E.enc n1 := by rw [n1, E.enc_mk]; rfl
  have eq4 : decide (bs [45, 32, 45, 49] = ⟨#[45, 32, 45, 49]⟩) = true := by decide
  refine AW.regl false [0] (by rfl) fun K1 hK1 => ?_ -- region 0
  simp only [go_sem, Nat.reduceAdd, Nat.reduceEqDiff, Nat.reduceLeDiff, true_and, List.length_map, len_row, one_row, A.enc_one, A.enc_len, A.enc_get43, A.enc_get47, bs_size, app_get, app_get0, fd43_0]
  refine hK1 _ _ ?_; try clear hK1 K1
  conv => enter [5]; simp only [setL_cons, setL_nil, List.set_cons_zero, List.set_cons_succ]
  refine AW.regl false [1] (by rfl) fun K2 hK2 => ?_ -- region 1
  simp only [go_sem, Nat.reduceAdd, Nat.reduceEqDiff, Nat.reduceLeDiff, true_and, List.length_map, len_row, one_row, A.enc_one, A.enc_len, A.enc_get43, A.enc_get47, bs_size, app_get, app_get0, fd43_0]
  refine hK2 _ _ ?_; try clear hK2 K2
  conv => enter [5]; simp only [setL_cons, setL_nil, List.set_cons_zero, List.set_cons_succ]
  refine AW.regl false [0] (by rfl) fun K3 hK3 => ?_ -- region 2
  simp only [go_sem, Nat.reduceAdd, Nat.reduceEqDiff, Nat.reduceLeDiff, true_and, List.length_map, len_row, one_row, A.enc_one, A.enc_len, A.enc_get43, A.enc_get47, bs_size, app_get, app_get0, fd43_0, hn1, ba_beqL, eq4]
  refine sC.of en30 ((neg_calls n1).on _).here (by rfl) ?_
  simp only [go_sem, Nat.reduceAdd, Nat.reduceEqDiff, Nat.reduceLeDiff, true_and, List.length_map, len_row, one_row, A.enc_one, A.enc_len, A.enc_get43, A.enc_get47, bs_size, app_get, app_get0, fd43_0, hn1, ba_beqL, eq4]
  refine sC.of en30 ((neg_calls (nt n1)).on _).here (by rfl) ?_
  simp only [go_sem, Nat.reduceAdd, Nat.reduceEqDiff, Nat.reduceLeDiff, true_and, List.length_map, len_row, one_row, A.enc_one, A.enc_len, A.enc_get43, A.enc_get47, bs_size, app_get, app_get0, fd43_0, hn1, ba_beqL, eq4]
  refine sC.of en12 (htx.on _).here (by rfl) ?_
  simp only [go_sem, Nat.reduceAdd, Nat.reduceEqDiff, Nat.reduceLeDiff, true_and, List.length_map, len_row, one_row, A.enc_one, A.enc_len, A.enc_get43, A.enc_get47, bs_size, app_get, app_get0, fd43_0, hn1, ba_beqL, eq4]
  refine hK3 _ _ ?_; try clear hK3 K3
  conv => enter [5]; simp only [setL_cons, setL_nil, List.set_cons_zero, List.set_cons_succ]
  refine AW.ret ⟨.inr rfl, _, rfl, by simp, ?_⟩ -- return 1
  exact .keep rfl
end Pr
end Go.Proofs.Tryd
/-! Printing: function 3. -/
namespace Go.Proofs.Tryd
set_option linter.unusedSimpArgs false
set_option linter.unusedVariables false
open Go Go.Proofs.Ev
namespace Pr
variable {Γ : List (Nat × List AV)}
set_option maxRecDepth 100000 in
open A (E VarM EqM NodeM ProgM) in
set_option maxHeartbeats 2000000 in
theorem printTells_calls {w : AV} (hΓ : A.Words (GP w)) (p : ProgM) (e : E) (hpk : p.ok) (hpt : A.totN p.nodes ≤ 1100000) (hez : e.size ≤ 1100000) (hef : e.fits) (hg : ∀ n ∈ p.nodes, ∀ q ∈ n.eqs, ∀ d ∈ q.rhs.pre, rng d) (hge : ∀ d ∈ e.pre, rng d) : APure prog (GP w) 3 [ProgM.enc p, E.enc e] (.val (.bool true)) := by
  refine APure.of func3 rfl fun σ => ?_
  simp only [ntmps3, List.length_cons, List.length_nil, Nat.reduceAdd, Nat.reduceSub, List.replicate_succ, List.replicate_zero, List.cons_append, List.nil_append]
  have hgc := A.great_calls (Γ := GP w) p hpk hpt
  have hoc := A.oprog_calls (Γ := GP w) p hpk
  have hrc := A.rpright_calls (Γ := GP w) p hpk
  simp only [ProgM.enc] at hgc hoc hrc
  refine AW.regl false [2, 3, 4] (by rfl) fun K1 hK1 => ?_ -- region 0
  simp only [go_sem, Nat.reduceAdd, Nat.reduceEqDiff, Nat.reduceLeDiff, true_and, List.length_map, len_row, one_row, A.enc_one, A.enc_len, A.enc_get43, A.enc_get47, bs_size, app_get, app_get0, ProgM.enc, A.prog_all, List.drop_zero, List.length_cons, List.all_cons]
  refine hK1 _ _ ?_; try clear hK1 K1
  conv => enter [5]; simp only [setL_cons, setL_nil, List.set_cons_zero, List.set_cons_succ]
  refine AW.seq_k fun K2 hK2 => ?_
  refine AW.regtf false 16 (.val (.bool (p.great || (decide (((e.size : Nat) : Int) > 300))))) (by rfl) ?_ ?_ -- region 1
  · skip
    cases h11 : (p.great)
    · skip
      simp only [go_sem, Nat.reduceAdd, Nat.reduceEqDiff, Nat.reduceLeDiff, true_and, List.length_map, len_row, one_row, A.enc_one, A.enc_len, A.enc_get43, A.enc_get47, bs_size, app_get, app_get0, ProgM.enc, A.prog_all, List.drop_zero, List.length_cons, List.all_cons, h11]
      refine sC.of en4 (hgc.on _).here (by rfl) ?_
      simp only [go_sem, Nat.reduceAdd, Nat.reduceEqDiff, Nat.reduceLeDiff, true_and, List.length_map, len_row, one_row, A.enc_one, A.enc_len, A.enc_get43, A.enc_get47, bs_size, app_get, app_get0, ProgM.enc, A.prog_all, List.drop_zero, List.length_cons, List.all_cons, h11]
      refine sC.of en5 ((A.rsize_calls e (by omega)).on _).here (by rfl) ?_
      simp only [go_sem, Nat.reduceAdd, Nat.reduceEqDiff, Nat.reduceLeDiff, true_and, List.length_map, len_row, one_row, A.enc_one, A.enc_len, A.enc_get43, A.enc_get47, bs_size, app_get, app_get0, ProgM.enc, A.prog_all, List.drop_zero, List.length_cons, List.all_cons, h11]
      try simp [upd_at, h11, List.length_map, len_row, one_row, A.enc_one, A.enc_len, A.enc_get43, A.enc_get47, bs_size, app_get, app_get0, ProgM.enc, A.prog_all, List.drop_zero, List.length_cons, List.all_cons]
    · skip
      simp only [go_sem, Nat.reduceAdd, Nat.reduceEqDiff, Nat.reduceLeDiff, true_and, List.length_map, len_row, one_row, A.enc_one, A.enc_len, A.enc_get43, A.enc_get47, bs_size, app_get, app_get0, ProgM.enc, A.prog_all, List.drop_zero, List.length_cons, List.all_cons, h11]
      refine sC.of en4 (hgc.on _).here (by rfl) ?_
      simp only [go_sem, Nat.reduceAdd, Nat.reduceEqDiff, Nat.reduceLeDiff, true_and, List.length_map, len_row, one_row, A.enc_one, A.enc_len, A.enc_get43, A.enc_get47, bs_size, app_get, app_get0, ProgM.enc, A.prog_all, List.drop_zero, List.length_cons, List.all_cons, h11]
      try simp [upd_at, h11, List.length_map, len_row, one_row, A.enc_one, A.enc_len, A.enc_get43, A.enc_get47, bs_size, app_get, app_get0, ProgM.enc, A.prog_all, List.drop_zero, List.length_cons, List.all_cons]
  conv => enter [5]; simp only [List.set_cons_zero, List.set_cons_succ]
  refine AW.cond rfl (fun hc16 => ?_) (fun hc16 => ?_)
  · skip
    refine AW.regl false [4] (by rfl) fun K4 hK4 => ?_ -- region 2
    simp only [go_sem, Nat.reduceAdd, Nat.reduceEqDiff, Nat.reduceLeDiff, true_and, List.length_map, len_row, one_row, A.enc_one, A.enc_len, A.enc_get43, A.enc_get47, bs_size, app_get, app_get0, ProgM.enc, A.prog_all, List.drop_zero, List.length_cons, List.all_cons]
    refine hK4 _ _ ?_; try clear hK4 K4
    conv => enter [5]; simp only [setL_cons, setL_nil, List.set_cons_zero, List.set_cons_succ]
    refine AW.ret ⟨.inr rfl, _, rfl, by simp, ?_⟩ -- return 1
    exact .keep rfl
  · skip
    have hgs : p.great = false ∧ e.size ≤ 300 := by have h := hc16; simp at h; exact ⟨h.1, by omega⟩
    obtain ⟨hgr, hes⟩ := hgs
    have hb0 : bs [] = ⟨#[]⟩ := rfl
    have hP : APure prog (GP w) 6 [ProgM.enc p.own] (.tup [str (bs (if p.right then progT p else [])), i64 (if p.right then 0 else 11)]) := by
      have := print_calls hΓ p.own (A.progown_ok hpk) (own_rng hg) (fun h => by
        rw [A.progown_right] at h
        rw [progT_own]
        exact Nat.le_trans (progT_le h hg hgr) (by decide))
      rwa [A.progown_right, progT_own] at this
    obtain ⟨TP, hTP⟩ : ∃ z, z = if p.right then progT p else [] := ⟨_, rfl⟩
    obtain ⟨KP, hKP⟩ : ∃ z : Int, z = if p.right then 0 else 11 := ⟨_, rfl⟩
    rw [← hTP, ← hKP] at hP
    simp only [ProgM.enc] at hP
    have hre : APure prog (GP w) 10 [e.enc] (.val (.bool (A.exprR e))) := A.right_expr_calls e (by omega) hef
    have htx : APure prog (GP w) 12 [E.enc e.norm] (str (bs (if A.exprR e then tx e else []))) := by
      have := text_calls hΓ e.norm (by rw [A.norm_size]; omega) (A.norm_fits hef) (rng_norm hge) (fun h => by
        rw [A.own_exprR] at h
        simp only [A.exprR, Bool.and_eq_true] at h
        have := tx_le e h.1 hge
        rw [tx_norm]
        exact Nat.le_trans (show (tx e).length ≤ 40000 by omega) (by decide))
      rwa [A.own_exprR, tx_norm] at this
    obtain ⟨TE, hTE⟩ : ∃ z, z = if A.exprR e then tx e else [] := ⟨_, rfl⟩
    rw [← hTE] at htx
    refine AW.skip ?_
    refine hK2 _ _ ?_; try clear hK2 K2
    refine AW.regl false [5, 6] (by rfl) fun K5 hK5 => ?_ -- region 3
    simp only [go_sem, Nat.reduceAdd, Nat.reduceEqDiff, Nat.reduceLeDiff, true_and, List.length_map, len_row, one_row, A.enc_one, A.enc_len, A.enc_get43, A.enc_get47, bs_size, app_get, app_get0, ProgM.enc, A.prog_all, List.drop_zero, List.length_cons, List.all_cons, aExtract]
    refine sC.of en7 (hoc.on _).here (by rfl) ?_
    simp only [go_sem, Nat.reduceAdd, Nat.reduceEqDiff, Nat.reduceLeDiff, true_and, List.length_map, len_row, one_row, A.enc_one, A.enc_len, A.enc_get43, A.enc_get47, bs_size, app_get, app_get0, ProgM.enc, A.prog_all, List.drop_zero, List.length_cons, List.all_cons, aExtract]
    refine sC.of en6 (hP.on _).here (by rfl) ?_
    simp only [go_sem, Nat.reduceAdd, Nat.reduceEqDiff, Nat.reduceLeDiff, true_and, List.length_map, len_row, one_row, A.enc_one, A.enc_len, A.enc_get43, A.enc_get47, bs_size, app_get, app_get0, ProgM.enc, A.prog_all, List.drop_zero, List.length_cons, List.all_cons, aExtract]
    refine hK5 _ _ ?_; try clear hK5 K5
    conv => enter [5]; simp only [setL_cons, setL_nil, List.set_cons_zero, List.set_cons_succ]
    refine AW.regl false [7, 8] (by rfl) fun K6 hK6 => ?_ -- region 4
    simp only [go_sem, Nat.reduceAdd, Nat.reduceEqDiff, Nat.reduceLeDiff, true_and, List.length_map, len_row, one_row, A.enc_one, A.enc_len, A.enc_get43, A.enc_get47, bs_size, app_get, app_get0, ProgM.enc, A.prog_all, List.drop_zero, List.length_cons, List.all_cons]
    refine hK6 _ _ ?_; try clear hK6 K6
    conv => enter [5]; simp only [setL_cons, setL_nil, List.set_cons_zero, List.set_cons_succ]
    refine AW.regl false [9] (by rfl) fun K7 hK7 => ?_ -- region 5
    simp only [go_sem, Nat.reduceAdd, Nat.reduceEqDiff, Nat.reduceLeDiff, true_and, List.length_map, len_row, one_row, A.enc_one, A.enc_len, A.enc_get43, A.enc_get47, bs_size, app_get, app_get0, ProgM.enc, A.prog_all, List.drop_zero, List.length_cons, List.all_cons]
    refine hK7 _ _ ?_; try clear hK7 K7
    conv => enter [5]; simp only [setL_cons, setL_nil, List.set_cons_zero, List.set_cons_succ]
    refine AW.seq_k fun K8 hK8 => ?_
    refine AW.regl false [24] (by rfl) fun K9 hK9 => ?_ -- region 6
    simp only [go_sem, Nat.reduceAdd, Nat.reduceEqDiff, Nat.reduceLeDiff, true_and, List.length_map, len_row, one_row, A.enc_one, A.enc_len, A.enc_get43, A.enc_get47, bs_size, app_get, app_get0, ProgM.enc, A.prog_all, List.drop_zero, List.length_cons, List.all_cons]
    refine sC.of en8 (hrc.on _).here (by rfl) ?_
    simp only [go_sem, Nat.reduceAdd, Nat.reduceEqDiff, Nat.reduceLeDiff, true_and, List.length_map, len_row, one_row, A.enc_one, A.enc_len, A.enc_get43, A.enc_get47, bs_size, app_get, app_get0, ProgM.enc, A.prog_all, List.drop_zero, List.length_cons, List.all_cons]
    refine hK9 _ _ ?_; try clear hK9 K9
    conv => enter [5]; simp only [setL_cons, setL_nil, List.set_cons_zero, List.set_cons_succ]
    refine AW.cond rfl (fun hc24 => ?_) (fun hc24 => ?_)
    · skip
      have hc : p.right = true := hc24
      rw [if_pos hc] at hTP hKP
      subst hTP hKP
      have hrp := rprint_calls (Γ := GP w) p hc hg (progT_le hc hg hgr)
      simp only [ProgM.enc] at hrp
      refine AW.lastl false [7, 9] (by rfl) fun K hK => ?_ -- region 7
      simp only [go_sem, Nat.reduceAdd, Nat.reduceEqDiff, Nat.reduceLeDiff, true_and, List.length_map, len_row, one_row, A.enc_one, A.enc_len, A.enc_get43, A.enc_get47, bs_size, app_get, app_get0, ProgM.enc, A.prog_all, List.drop_zero, List.length_cons, List.all_cons]
      refine sC.of en9 (hrp.on _).here (by rfl) ?_
      simp only [go_sem, Nat.reduceAdd, Nat.reduceEqDiff, Nat.reduceLeDiff, true_and, List.length_map, len_row, one_row, A.enc_one, A.enc_len, A.enc_get43, A.enc_get47, bs_size, app_get, app_get0, ProgM.enc, A.prog_all, List.drop_zero, List.length_cons, List.all_cons]
      refine hK _ _ fun env' hw => ?_
      simp only [setL_cons, setL_nil, List.set_cons_zero, List.set_cons_succ] at hw
      refine hK8 _ _ (AW.weaken hw ?_); clear hw; try clear hK8 K8
      refine AW.seq_k fun K10 hK10 => ?_
      refine AW.regl false [28] (by rfl) fun K11 hK11 => ?_ -- region 8
      simp only [go_sem, Nat.reduceAdd, Nat.reduceEqDiff, Nat.reduceLeDiff, true_and, List.length_map, len_row, one_row, A.enc_one, A.enc_len, A.enc_get43, A.enc_get47, bs_size, app_get, app_get0, ProgM.enc, A.prog_all, List.drop_zero, List.length_cons, List.all_cons]
      refine sC.of en10 (hre.on _).here (by rfl) ?_
      simp only [go_sem, Nat.reduceAdd, Nat.reduceEqDiff, Nat.reduceLeDiff, true_and, List.length_map, len_row, one_row, A.enc_one, A.enc_len, A.enc_get43, A.enc_get47, bs_size, app_get, app_get0, ProgM.enc, A.prog_all, List.drop_zero, List.length_cons, List.all_cons]
      refine hK11 _ _ ?_; try clear hK11 K11
      conv => enter [5]; simp only [setL_cons, setL_nil, List.set_cons_zero, List.set_cons_succ]
      refine AW.cond rfl (fun hc28 => ?_) (fun hc28 => ?_)
      · skip
        have hce : A.exprR e = true := hc28
        rw [if_pos hce] at hTE
        subst hTE
        have hse : e.shape = true := by have h := hce; simp only [A.exprR, Bool.and_eq_true] at h; exact h.1
        have hrt := rexpr_calls (Γ := GP w) e hse hge (by have := tx_le e hse hge; omega)
        have hbe := beq_self_eq_true (bs (tx e)).toList
        refine AW.lastl false [8] (by rfl) fun K hK => ?_ -- region 9
        simp only [go_sem, Nat.reduceAdd, Nat.reduceEqDiff, Nat.reduceLeDiff, true_and, List.length_map, len_row, one_row, A.enc_one, A.enc_len, A.enc_get43, A.enc_get47, bs_size, app_get, app_get0, ProgM.enc, A.prog_all, List.drop_zero, List.length_cons, List.all_cons]
        refine sC.of en11 (hrt.on _).here (by rfl) ?_
        simp only [go_sem, Nat.reduceAdd, Nat.reduceEqDiff, Nat.reduceLeDiff, true_and, List.length_map, len_row, one_row, A.enc_one, A.enc_len, A.enc_get43, A.enc_get47, bs_size, app_get, app_get0, ProgM.enc, A.prog_all, List.drop_zero, List.length_cons, List.all_cons]
        refine hK _ _ fun env' hw => ?_
        simp only [setL_cons, setL_nil, List.set_cons_zero, List.set_cons_succ] at hw
        refine hK10 _ _ (AW.weaken hw ?_); clear hw; try clear hK10 K10
        refine AW.regtf false 4 (.val (.bool (true))) (by rfl) ?_ ?_ -- region 10
        · skip
          simp only [go_sem, Nat.reduceAdd, Nat.reduceEqDiff, Nat.reduceLeDiff, true_and, List.length_map, len_row, one_row, A.enc_one, A.enc_len, A.enc_get43, A.enc_get47, bs_size, app_get, app_get0, ProgM.enc, A.prog_all, List.drop_zero, List.length_cons, List.all_cons, hb0, ba_beqL, beq_self_eq_true, hbe, decide_true]
          refine sC.of en13 ((A.own_calls e (by omega)).on _).here (by rfl) ?_
          simp only [go_sem, Nat.reduceAdd, Nat.reduceEqDiff, Nat.reduceLeDiff, true_and, List.length_map, len_row, one_row, A.enc_one, A.enc_len, A.enc_get43, A.enc_get47, bs_size, app_get, app_get0, ProgM.enc, A.prog_all, List.drop_zero, List.length_cons, List.all_cons, hb0, ba_beqL, beq_self_eq_true, hbe, decide_true]
          refine sC.of en12 (htx.on _).here (by rfl) ?_
          simp only [go_sem, Nat.reduceAdd, Nat.reduceEqDiff, Nat.reduceLeDiff, true_and, List.length_map, len_row, one_row, A.enc_one, A.enc_len, A.enc_get43, A.enc_get47, bs_size, app_get, app_get0, ProgM.enc, A.prog_all, List.drop_zero, List.length_cons, List.all_cons, hb0, ba_beqL, beq_self_eq_true, hbe, decide_true]
          refine sC.of en14 ((pawake_calls hΓ).on _).here (by rfl) ?_
          simp only [go_sem, Nat.reduceAdd, Nat.reduceEqDiff, Nat.reduceLeDiff, true_and, List.length_map, len_row, one_row, A.enc_one, A.enc_len, A.enc_get43, A.enc_get47, bs_size, app_get, app_get0, ProgM.enc, A.prog_all, List.drop_zero, List.length_cons, List.all_cons, hb0, ba_beqL, beq_self_eq_true, hbe, decide_true]
          try simp [upd_at, List.length_map, len_row, one_row, A.enc_one, A.enc_len, A.enc_get43, A.enc_get47, bs_size, app_get, app_get0, ProgM.enc, A.prog_all, List.drop_zero, List.length_cons, List.all_cons, hb0, ba_beqL, beq_self_eq_true, hbe, decide_true]
        conv => enter [5]; simp only [List.set_cons_zero, List.set_cons_succ]
        refine AW.ret ⟨.inr rfl, _, rfl, by simp, ?_⟩ -- return 2
        exact .keep rfl
      · skip
        have hce : ¬ A.exprR e = true := ne_true_of_eq_false hc28
        rw [if_neg hce] at hTE
        subst hTE
        have hbe := hb0
        refine AW.skip ?_
        refine hK10 _ _ ?_; try clear hK10 K10
        refine AW.regtf false 4 (.val (.bool (true))) (by rfl) ?_ ?_ -- region 10
        · skip
          simp only [go_sem, Nat.reduceAdd, Nat.reduceEqDiff, Nat.reduceLeDiff, true_and, List.length_map, len_row, one_row, A.enc_one, A.enc_len, A.enc_get43, A.enc_get47, bs_size, app_get, app_get0, ProgM.enc, A.prog_all, List.drop_zero, List.length_cons, List.all_cons, hb0, ba_beqL, beq_self_eq_true, hbe, decide_true]
          refine sC.of en13 ((A.own_calls e (by omega)).on _).here (by rfl) ?_
          simp only [go_sem, Nat.reduceAdd, Nat.reduceEqDiff, Nat.reduceLeDiff, true_and, List.length_map, len_row, one_row, A.enc_one, A.enc_len, A.enc_get43, A.enc_get47, bs_size, app_get, app_get0, ProgM.enc, A.prog_all, List.drop_zero, List.length_cons, List.all_cons, hb0, ba_beqL, beq_self_eq_true, hbe, decide_true]
          refine sC.of en12 (htx.on _).here (by rfl) ?_
          simp only [go_sem, Nat.reduceAdd, Nat.reduceEqDiff, Nat.reduceLeDiff, true_and, List.length_map, len_row, one_row, A.enc_one, A.enc_len, A.enc_get43, A.enc_get47, bs_size, app_get, app_get0, ProgM.enc, A.prog_all, List.drop_zero, List.length_cons, List.all_cons, hb0, ba_beqL, beq_self_eq_true, hbe, decide_true]
          refine sC.of en14 ((pawake_calls hΓ).on _).here (by rfl) ?_
          simp only [go_sem, Nat.reduceAdd, Nat.reduceEqDiff, Nat.reduceLeDiff, true_and, List.length_map, len_row, one_row, A.enc_one, A.enc_len, A.enc_get43, A.enc_get47, bs_size, app_get, app_get0, ProgM.enc, A.prog_all, List.drop_zero, List.length_cons, List.all_cons, hb0, ba_beqL, beq_self_eq_true, hbe, decide_true]
          try simp [upd_at, List.length_map, len_row, one_row, A.enc_one, A.enc_len, A.enc_get43, A.enc_get47, bs_size, app_get, app_get0, ProgM.enc, A.prog_all, List.drop_zero, List.length_cons, List.all_cons, hb0, ba_beqL, beq_self_eq_true, hbe, decide_true]
        conv => enter [5]; simp only [List.set_cons_zero, List.set_cons_succ]
        refine AW.ret ⟨.inr rfl, _, rfl, by simp, ?_⟩ -- return 3
        exact .keep rfl
    · skip
      have hc : ¬ p.right = true := ne_true_of_eq_false hc24
      rw [if_neg hc] at hTP hKP
      subst hTP hKP
      refine AW.skip ?_
      refine hK8 _ _ ?_; try clear hK8 K8
      refine AW.seq_k fun K14 hK14 => ?_
      refine AW.regl false [28] (by rfl) fun K15 hK15 => ?_ -- region 8
      simp only [go_sem, Nat.reduceAdd, Nat.reduceEqDiff, Nat.reduceLeDiff, true_and, List.length_map, len_row, one_row, A.enc_one, A.enc_len, A.enc_get43, A.enc_get47, bs_size, app_get, app_get0, ProgM.enc, A.prog_all, List.drop_zero, List.length_cons, List.all_cons]
      refine sC.of en10 (hre.on _).here (by rfl) ?_
      simp only [go_sem, Nat.reduceAdd, Nat.reduceEqDiff, Nat.reduceLeDiff, true_and, List.length_map, len_row, one_row, A.enc_one, A.enc_len, A.enc_get43, A.enc_get47, bs_size, app_get, app_get0, ProgM.enc, A.prog_all, List.drop_zero, List.length_cons, List.all_cons]
      refine hK15 _ _ ?_; try clear hK15 K15
      conv => enter [5]; simp only [setL_cons, setL_nil, List.set_cons_zero, List.set_cons_succ]
      refine AW.cond rfl (fun hc28 => ?_) (fun hc28 => ?_)
      · skip
        have hce : A.exprR e = true := hc28
        rw [if_pos hce] at hTE
        subst hTE
        have hse : e.shape = true := by have h := hce; simp only [A.exprR, Bool.and_eq_true] at h; exact h.1
        have hrt := rexpr_calls (Γ := GP w) e hse hge (by have := tx_le e hse hge; omega)
        have hbe := beq_self_eq_true (bs (tx e)).toList
        refine AW.lastl false [8] (by rfl) fun K hK => ?_ -- region 9
        simp only [go_sem, Nat.reduceAdd, Nat.reduceEqDiff, Nat.reduceLeDiff, true_and, List.length_map, len_row, one_row, A.enc_one, A.enc_len, A.enc_get43, A.enc_get47, bs_size, app_get, app_get0, ProgM.enc, A.prog_all, List.drop_zero, List.length_cons, List.all_cons]
        refine sC.of en11 (hrt.on _).here (by rfl) ?_
        simp only [go_sem, Nat.reduceAdd, Nat.reduceEqDiff, Nat.reduceLeDiff, true_and, List.length_map, len_row, one_row, A.enc_one, A.enc_len, A.enc_get43, A.enc_get47, bs_size, app_get, app_get0, ProgM.enc, A.prog_all, List.drop_zero, List.length_cons, List.all_cons]
        refine hK _ _ fun env' hw => ?_
        simp only [setL_cons, setL_nil, List.set_cons_zero, List.set_cons_succ] at hw
        refine hK14 _ _ (AW.weaken hw ?_); clear hw; try clear hK14 K14
        refine AW.regtf false 4 (.val (.bool (true))) (by rfl) ?_ ?_ -- region 10
        · skip
          simp only [go_sem, Nat.reduceAdd, Nat.reduceEqDiff, Nat.reduceLeDiff, true_and, List.length_map, len_row, one_row, A.enc_one, A.enc_len, A.enc_get43, A.enc_get47, bs_size, app_get, app_get0, ProgM.enc, A.prog_all, List.drop_zero, List.length_cons, List.all_cons, hb0, ba_beqL, beq_self_eq_true, hbe, decide_true]
          refine sC.of en13 ((A.own_calls e (by omega)).on _).here (by rfl) ?_
          simp only [go_sem, Nat.reduceAdd, Nat.reduceEqDiff, Nat.reduceLeDiff, true_and, List.length_map, len_row, one_row, A.enc_one, A.enc_len, A.enc_get43, A.enc_get47, bs_size, app_get, app_get0, ProgM.enc, A.prog_all, List.drop_zero, List.length_cons, List.all_cons, hb0, ba_beqL, beq_self_eq_true, hbe, decide_true]
          refine sC.of en12 (htx.on _).here (by rfl) ?_
          simp only [go_sem, Nat.reduceAdd, Nat.reduceEqDiff, Nat.reduceLeDiff, true_and, List.length_map, len_row, one_row, A.enc_one, A.enc_len, A.enc_get43, A.enc_get47, bs_size, app_get, app_get0, ProgM.enc, A.prog_all, List.drop_zero, List.length_cons, List.all_cons, hb0, ba_beqL, beq_self_eq_true, hbe, decide_true]
          refine sC.of en14 ((pawake_calls hΓ).on _).here (by rfl) ?_
          simp only [go_sem, Nat.reduceAdd, Nat.reduceEqDiff, Nat.reduceLeDiff, true_and, List.length_map, len_row, one_row, A.enc_one, A.enc_len, A.enc_get43, A.enc_get47, bs_size, app_get, app_get0, ProgM.enc, A.prog_all, List.drop_zero, List.length_cons, List.all_cons, hb0, ba_beqL, beq_self_eq_true, hbe, decide_true]
          try simp [upd_at, List.length_map, len_row, one_row, A.enc_one, A.enc_len, A.enc_get43, A.enc_get47, bs_size, app_get, app_get0, ProgM.enc, A.prog_all, List.drop_zero, List.length_cons, List.all_cons, hb0, ba_beqL, beq_self_eq_true, hbe, decide_true]
        conv => enter [5]; simp only [List.set_cons_zero, List.set_cons_succ]
        refine AW.ret ⟨.inr rfl, _, rfl, by simp, ?_⟩ -- return 4
        exact .keep rfl
      · skip
        have hce : ¬ A.exprR e = true := ne_true_of_eq_false hc28
        rw [if_neg hce] at hTE
        subst hTE
        have hbe := hb0
        refine AW.skip ?_
        refine hK14 _ _ ?_; try clear hK14 K14
        refine AW.regtf false 4 (.val (.bool (true))) (by rfl) ?_ ?_ -- region 10
        · skip
          simp only [go_sem, Nat.reduceAdd, Nat.reduceEqDiff, Nat.reduceLeDiff, true_and, List.length_map, len_row, one_row, A.enc_one, A.enc_len, A.enc_get43, A.enc_get47, bs_size, app_get, app_get0, ProgM.enc, A.prog_all, List.drop_zero, List.length_cons, List.all_cons, hb0, ba_beqL, beq_self_eq_true, hbe, decide_true]
          refine sC.of en13 ((A.own_calls e (by omega)).on _).here (by rfl) ?_
          simp only [go_sem, Nat.reduceAdd, Nat.reduceEqDiff, Nat.reduceLeDiff, true_and, List.length_map, len_row, one_row, A.enc_one, A.enc_len, A.enc_get43, A.enc_get47, bs_size, app_get, app_get0, ProgM.enc, A.prog_all, List.drop_zero, List.length_cons, List.all_cons, hb0, ba_beqL, beq_self_eq_true, hbe, decide_true]
          refine sC.of en12 (htx.on _).here (by rfl) ?_
          simp only [go_sem, Nat.reduceAdd, Nat.reduceEqDiff, Nat.reduceLeDiff, true_and, List.length_map, len_row, one_row, A.enc_one, A.enc_len, A.enc_get43, A.enc_get47, bs_size, app_get, app_get0, ProgM.enc, A.prog_all, List.drop_zero, List.length_cons, List.all_cons, hb0, ba_beqL, beq_self_eq_true, hbe, decide_true]
          refine sC.of en14 ((pawake_calls hΓ).on _).here (by rfl) ?_
          simp only [go_sem, Nat.reduceAdd, Nat.reduceEqDiff, Nat.reduceLeDiff, true_and, List.length_map, len_row, one_row, A.enc_one, A.enc_len, A.enc_get43, A.enc_get47, bs_size, app_get, app_get0, ProgM.enc, A.prog_all, List.drop_zero, List.length_cons, List.all_cons, hb0, ba_beqL, beq_self_eq_true, hbe, decide_true]
          try simp [upd_at, List.length_map, len_row, one_row, A.enc_one, A.enc_len, A.enc_get43, A.enc_get47, bs_size, app_get, app_get0, ProgM.enc, A.prog_all, List.drop_zero, List.length_cons, List.all_cons, hb0, ba_beqL, beq_self_eq_true, hbe, decide_true]
        conv => enter [5]; simp only [List.set_cons_zero, List.set_cons_succ]
        refine AW.ret ⟨.inr rfl, _, rfl, by simp, ?_⟩ -- return 5
        exact .keep rfl
end Pr
end Go.Proofs.Tryd
