import Derived.Test.YteekpkbmkibacaaRTaf
/-! Whether a living table has just these texts. -/
namespace Go.Proofs.Try
set_option linter.unusedSimpArgs false
set_option linter.unusedVariables false
open Go Go.Proofs.Ev
variable {Γ : List (Nat × List AV)}
theorem findS_nodup : ∀ {l : List ByteArray}, l.Nodup → ∀ {i : Nat} (h : i < l.length), findS l l[i] = some i
  | [], _, i, h => absurd h (by simp)
  | a :: l, hn, 0, _ => by simp [findS]
  | a :: l, hn, i + 1, h => by
    have h1 : i < l.length := by simpa using h
    have hi := findS_nodup (List.nodup_cons.1 hn).2 h1
    have hne : l[i] ≠ a := fun e => (List.nodup_cons.1 hn).1 (e ▸ List.getElem_mem h1)
    simp [findS, hne, hi]
theorem get_at (σ τ : Sto) (l : List ByteArray) {i : Nat} (h : i < l.length) : ACalls prog Γ 10 [.ref (σ.length + 1) 0, i64 (i : Nat)] (σ ++ tab σ.length l τ) (fun v σ' => v = .tup [str l[i], bool true] ∧ σ' = σ ++ tab σ.length l τ) :=
  (get_calls σ τ l i).mono fun v σ' hR => ⟨by rw [hR.2, if_pos ⟨by omega, by omega⟩]; simp [h], hR.1⟩
theorem find_at (σ τ : Sto) (l : List ByteArray) (hn : l.Nodup) {i : Nat} (h : i < l.length) : ACalls prog Γ 21 [.ref (σ.length + 1) 0, str l[i]] (σ ++ tab σ.length l τ) (fun v σ' => v = .tup [i64 (i : Nat), bool true] ∧ σ' = σ ++ tab σ.length l τ) :=
  (find_calls σ τ l l[i]).mono fun v σ' hR => ⟨by rw [hR.2]; simp [fdI, findS_nodup hn h], hR.1⟩
theorem len_at (σ τ : Sto) (l : List ByteArray) : ACalls prog Γ 20 [.ref (σ.length + 1) 0] (σ ++ tab σ.length l τ) (fun v σ' => v = i64 l.length ∧ σ' = σ ++ tab σ.length l τ) :=
  (len_calls σ τ l).mono fun v σ' hR => ⟨hR.2, hR.1⟩
set_option maxRecDepth 100000 in
theorem like_calls (σ τ : Sto) (l : List ByteArray) (nl : Bool) (hn : l.Nodup) (hl : l.length ≤ maxLen) : ACalls prog Γ 8 [.ref (σ.length + 1) 0, rowAV 1 nl (l.map str)] (σ ++ tab σ.length l τ) (fun v σ' => v = bool true ∧ σ' = σ ++ tab σ.length l τ) := by
  refine ACalls.of func8 rfl ?_
  simp only [ntmps8, List.length_cons, List.length_nil, Nat.reduceAdd, Nat.reduceSub, List.replicate_succ, List.replicate_zero, List.cons_append, List.nil_append]
  refine AW.regl false [4] (by rfl) fun K1 hK1 => ?_ -- region 0
  simp only [go_sem, Nat.reduceAdd, Nat.reduceEqDiff, Nat.reduceLeDiff, true_and, List.length_map]
  refine hK1 _ _ ?_; try clear hK1 K1
  conv => enter [5]; simp only [setL_cons, setL_nil, List.set_cons_zero, List.set_cons_succ]
  refine AW.seq_k fun K2 hK2 => ?_
  refine AW.regtf false 18 (.val (.bool (false))) (by rfl) ?_ ?_ -- region 1
  · skip
    simp only [go_sem, Nat.reduceAdd, Nat.reduceEqDiff, Nat.reduceLeDiff, true_and, List.length_map]
    refine sC.ofR en20 (len_at σ τ l) (fun v' σ' hR => ?_)
    obtain ⟨rfl, rfl⟩ := hR
    simp only [go_sem, Nat.reduceAdd, Nat.reduceEqDiff, Nat.reduceLeDiff, true_and, List.length_map]
    try simp [upd_at, List.length_map]
  conv => enter [5]; simp only [List.set_cons_zero, List.set_cons_succ]
  refine AW.cond rfl (fun hc18 => ?_) (fun hc18 => ?_)
  · skip
    exact absurd hc18 (by simp)
  · skip
    refine AW.skip ?_
    refine hK2 _ _ ?_; try clear hK2 K2
    refine AW.seq_k fun K4 hK4 => ?_
    refine AW.regl false [5] (by rfl) fun K5 hK5 => ?_ -- region 3
    simp only [go_sem, Nat.reduceAdd, Nat.reduceEqDiff, Nat.reduceLeDiff, true_and, List.length_map]
    refine hK5 _ _ ?_; try clear hK5 K5
    conv => enter [5]; simp only [setL_cons, setL_nil, List.set_cons_zero, List.set_cons_succ]
    refine AW.block ?_
    -- LIVE but not told: [34, 35, 36, 37, 38, 39, 53, 54, 55]
    refine AW.loop_wk (α := Nat) (fun i => [(.ref (σ.length + 1) 0), (rowAV 1 nl (l.map str)), .any, .any, .any, (i64 (i : Nat)), .any, .any, .any, .any, .any, .any, .any, .any, .any, .any, .any, .any, .any, .any, .any, .any, .any, .any, .any, .any, .any, .any, .any, .any, .any, .any, .any, .any, .any, .any, .any, .any, .any, .any, .any, .any, .any, .any, .any, .any, .any, .any, .any, .any, .any, .any, .any, .any, .any, .any, .any]) (fun i => σ ++ tab σ.length l τ) (fun i => l.length - i) (fun i => i ≤ l.length) 0 ?_ ?_
    · exact ⟨Nat.zero_le _, by simp [Wk], rfl⟩
    · intro i hi
      refine AW.seq_k fun K6 hK6 => ?_
      refine AW.regl false [22] (by rfl) fun K7 hK7 => ?_ -- region 4
      simp only [go_sem, Nat.reduceAdd, Nat.reduceEqDiff, Nat.reduceLeDiff, true_and, List.length_map]
      refine hK7 _ _ ?_; try clear hK7 K7
      conv => enter [5]; simp only [setL_cons, setL_nil, List.set_cons_zero, List.set_cons_succ]
      refine AW.cond rfl (fun hc22 => ?_) (fun hc22 => ?_)
      · skip
        have hi1 : i < l.length := by simpa using hc22
        have hxi : (l.map str)[i]? = some (str l[i]) := by simp [hi1]
        refine AW.skip ?_
        refine hK6 _ _ ?_; try clear hK6 K6
        refine AW.seq_k fun K8 hK8 => ?_
        refine AW.block ?_
        refine AW.seq_k fun K9 hK9 => ?_
        refine AW.regl false [6, 7] (by rfl) fun K10 hK10 => ?_ -- region 6
        simp only [go_sem, Nat.reduceAdd, Nat.reduceEqDiff, Nat.reduceLeDiff, true_and, List.length_map]
        refine sC.ofR en10 (get_at σ τ l hi1) (fun v' σ' hR => ?_)
        obtain ⟨rfl, rfl⟩ := hR
        simp only [go_sem, Nat.reduceAdd, Nat.reduceEqDiff, Nat.reduceLeDiff, true_and, List.length_map]
        refine hK10 _ _ ?_; try clear hK10 K10
        conv => enter [5]; simp only [setL_cons, setL_nil, List.set_cons_zero, List.set_cons_succ]
        -- LIVE [34, 35, 36, 37, 38, 39, 40]
        refine AW.regtf false 40 (.val (.bool (false))) (by rfl) ?_ ?_ -- region 7
        · skip
          simp only [go_sem, Nat.reduceAdd, Nat.reduceEqDiff, Nat.reduceLeDiff, true_and, List.length_map, at_row hxi]
          try simp [upd_at, List.length_map, at_row hxi]
        conv => enter [5]; simp only [List.set_cons_zero, List.set_cons_succ]
        refine AW.cond rfl (fun hc40 => ?_) (fun hc40 => ?_)
        · skip
          exact absurd hc40 (by simp)
        · skip
          refine AW.skip ?_
          refine hK9 _ _ ?_; try clear hK9 K9
          refine AW.regl false [8, 9] (by rfl) fun K12 hK12 => ?_ -- region 9
          simp only [go_sem, Nat.reduceAdd, Nat.reduceEqDiff, Nat.reduceLeDiff, true_and, List.length_map, at_row hxi]
          refine sC.ofR en21 (find_at σ τ l hn hi1) (fun v' σ' hR => ?_)
          obtain ⟨rfl, rfl⟩ := hR
          simp only [go_sem, Nat.reduceAdd, Nat.reduceEqDiff, Nat.reduceLeDiff, true_and, List.length_map, at_row hxi]
          refine hK12 _ _ ?_; try clear hK12 K12
          conv => enter [5]; simp only [setL_cons, setL_nil, List.set_cons_zero, List.set_cons_succ]
          -- LIVE [53, 54, 55, 56]
          refine AW.regtf false 56 (.val (.bool (false))) (by rfl) ?_ ?_ -- region 10
          · skip
            simp only [go_sem, Nat.reduceAdd, Nat.reduceEqDiff, Nat.reduceLeDiff, true_and, List.length_map]
            try simp [upd_at, List.length_map]
          conv => enter [5]; simp only [List.set_cons_zero, List.set_cons_succ]
          refine AW.cond rfl (fun hc56 => ?_) (fun hc56 => ?_)
          · skip
            exact absurd hc56 (by simp)
          · skip
            refine AW.skip ?_
            refine hK8 _ _ ?_; try clear hK8 K8
            refine AW.lastl false [5] (by rfl) fun K hK => ?_ -- region 5
            simp only [go_sem, Nat.reduceAdd, Nat.reduceEqDiff, Nat.reduceLeDiff, true_and, List.length_map]
            refine hK _ _ fun env' hw => ?_
            simp only [setL_cons, setL_nil, List.set_cons_zero, List.set_cons_succ] at hw
            refine ⟨i + 1, by omega, by omega, ?_, rfl⟩
            refine hw.trans ?_
            simp [Wk, wrap_succ hi1 hl]
      · skip
        have hi1 : i = l.length := by
          have : ¬ i < l.length := by simpa using hc22
          omega
        refine AW.exit ?_
        refine hK4 _ _ ?_; try clear hK4 K4
        refine AW.regl false [4] (by rfl) fun K14 hK14 => ?_ -- region 12
        simp only [go_sem, Nat.reduceAdd, Nat.reduceEqDiff, Nat.reduceLeDiff, true_and, List.length_map]
        refine hK14 _ _ ?_; try clear hK14 K14
        conv => enter [5]; simp only [setL_cons, setL_nil, List.set_cons_zero, List.set_cons_succ]
        exact AW.ret ⟨.inr rfl, _, rfl, rfl, rfl⟩

end Go.Proofs.Try

