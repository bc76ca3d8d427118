import Derived.Test.YteekpkbmkibacaaRTac
/-! Bytes of tables. -/
namespace Go.Proofs.Try
set_option linter.unusedSimpArgs false
set_option linter.unusedVariables false
open Go Go.Proofs.Ev
variable {Γ : List (Nat × List AV)}
theorem rputvar_f : ∀ (f v : Nat), f ≤ 9 → v < 128 ^ (f + 1) → v < 18446744073709551616 → APure prog Γ 24 [.val (.int .u64 (v : Nat))] (str (bs (pvB f v)))
  | 0, v, _, h, hv => by
    have hlt : v < 128 := by simpa using h
    have := rputvar_step (Γ := Γ) 0 v hv (by decide) (fun h => absurd hlt (by omega))
    rw [show pvB (0 + 1) v = pvB 0 v by simp [pvB, hlt]] at this
    exact this
  | f + 1, v, hf, h, hv => by
    refine rputvar_step (Γ := Γ) f v hv (by omega) fun h128 => rputvar_f f (v / 128) (by omega) ?_ (by omega)
    rw [Nat.pow_succ] at h
    exact Nat.div_lt_of_lt_mul (by rw [Nat.mul_comm]; exact h)
theorem rputvar_calls {v : Nat} (hv : v < 18446744073709551616) : APure prog Γ 24 [.val (.int .u64 (v : Nat))] (str (bs (pv v))) := rputvar_f 9 v (by decide) (by omega) hv
theorem cat_ba {a b : ByteArray} (T : TypeId) (h : a.size + b.size ≤ 4611686018427387904) : aBin prog .add T (str a) (str b) = some (str (a ++ b)) := by
  have hm : IntKind.i64.max = 9223372036854775807 := by decide
  simp only [aBin, aStr, hm]
  rw [if_neg (by omega)]
  rfl
theorem app_size (a b : ByteArray) : (a ++ b).size = a.size + b.size := by simp
/-- A text's bytes. -/
def pt (s : ByteArray) : ByteArray := bs (pv s.size) ++ s
theorem pt_size (s : ByteArray) : (pt s).size ≤ 10 + s.size := by
  have := pvB_len 9 s.size
  rw [pt, app_size, bs_size]
  unfold pv
  omega
/-- A table's bytes, as far as i texts go. -/
def ptb (l : List ByteArray) (i : Nat) : ByteArray := (l.take i).foldl (fun a s => a ++ pt s) (bs (pv l.length))
theorem ptb_step {l : List ByteArray} {i : Nat} (h : i < l.length) : ptb l (i + 1) = ptb l i ++ pt l[i] := by
  rw [ptb, ptb, List.take_succ_eq_append_getElem h, List.foldl_append]
  rfl
theorem ptb_size {l : List ByteArray} (hl : ∀ s ∈ l, s.size ≤ 65560) : ∀ (i : Nat), i ≤ l.length → (ptb l i).size ≤ 10 + i * 65570
  | 0, _ => by
    have := pvB_len 9 l.length
    simp only [ptb, List.take_zero, List.foldl_nil, bs_size, pv]
    omega
  | i + 1, h => by
    have h1 := ptb_size hl i (by omega)
    have h2 := pt_size l[i]
    have h3 := hl l[i] (List.getElem_mem (by omega))
    rw [ptb_step (by omega), app_size, Nat.add_mul]
    omega
theorem row_strs (n : Nat) (nl : Bool) (l : List ByteArray) : (rowAV 1 nl (l.map str)).bel n = true := by
  cases l with
  | nil => cases nl <;> rfl
  | cons a l => exact strs_bel (a :: l) n
theorem frz_strs {n k : Nat} {σ : Sto} {nl : Bool} (l : List ByteArray) (s : ByteArray) (hk : n ≤ k) : Frz n σ (.slo false 1 (l.map str ++ [str s]) k) (rowAV 1 nl ((l ++ [s]).map str)) := by
  have h : (l ++ [s]).map str = l.map str ++ [str s] := by simp
  rw [h]
  have hne : l.map str ++ [str s] ≠ [] := by simp
  have hr : rowAV 1 nl (l.map str ++ [str s]) = .sl 1 (l.map str ++ [str s]) := by
    cases hl : l.map str ++ [str s] with
    | nil => exact absurd hl hne
    | cons a b => rfl
  rw [hr]
  exact .own hk hne (FrzR.keep (by rw [← h]; exact strs_bel _ n))
set_option maxRecDepth 100000 in
theorem rputtext_calls (s : ByteArray) (hs : s.size ≤ 4294967296) : APure prog Γ 25 [str s] (str (pt s)) := by
  refine APure.of func25 rfl fun σ => ?_
  simp only [ntmps25, List.length_cons, List.length_nil, Nat.reduceAdd, Nat.reduceSub, List.replicate_succ, List.replicate_zero, List.cons_append, List.nil_append]
  have hw := wrap_u64 (n := s.size) (by omega)
  have hc := cat_ba (a := bs (pv s.size)) (b := s) 9 (by rw [bs_size]; have := pvB_len 9 s.size; unfold pv; omega)
  refine AW.regl false [2] (by rfl) fun K1 hK1 => ?_ -- region 0
  simp only [go_sem, Nat.reduceAdd, Nat.reduceEqDiff, Nat.reduceLeDiff, true_and]
  refine hK1 _ _ ?_; try clear hK1 K1
  conv => enter [5]; simp only [setL_cons, setL_nil, List.set_cons_zero, List.set_cons_succ]
  refine AW.regl false [2] (by rfl) fun K2 hK2 => ?_ -- region 1
  simp only [go_sem, Nat.reduceAdd, Nat.reduceEqDiff, Nat.reduceLeDiff, true_and, hw, hc]
  refine sC.of en24 ((rputvar_calls (v := s.size) (by omega)).on _).here (by rfl) ?_
  simp only [go_sem, Nat.reduceAdd, Nat.reduceEqDiff, Nat.reduceLeDiff, true_and, hw, hc]
  refine hK2 _ _ ?_; try clear hK2 K2
  conv => enter [5]; simp only [setL_cons, setL_nil, List.set_cons_zero, List.set_cons_succ]
  refine AW.ret ⟨.inr rfl, _, rfl, by simp, ?_⟩ -- return 1
  exact .keep rfl

set_option maxRecDepth 100000 in
theorem rput_calls (nl : Bool) (l : List ByteArray) (hn : l.length ≤ 3000) (hl : ∀ s ∈ l, s.size ≤ 65560) : APure prog Γ 12 [rowAV 1 nl (l.map str)] (str (ptb l l.length)) := by
  refine APure.of func12 rfl fun σ => ?_
  simp only [ntmps12, List.length_cons, List.length_nil, Nat.reduceAdd, Nat.reduceSub, List.replicate_succ, List.replicate_zero, List.cons_append, List.nil_append]
  have hw := wrap_u64 (n := l.length) (by omega)
  refine AW.regl false [2] (by rfl) fun K1 hK1 => ?_ -- region 0
  simp only [go_sem, Nat.reduceAdd, Nat.reduceEqDiff, Nat.reduceLeDiff, true_and, List.length_map]
  refine hK1 _ _ ?_; try clear hK1 K1
  conv => enter [5]; simp only [setL_cons, setL_nil, List.set_cons_zero, List.set_cons_succ]
  refine AW.regl false [3] (by rfl) fun K2 hK2 => ?_ -- region 1
  simp only [go_sem, Nat.reduceAdd, Nat.reduceEqDiff, Nat.reduceLeDiff, true_and, List.length_map, hw]
  refine sC.of en24 ((rputvar_calls (v := l.length) (by omega)).on _).here (by rfl) ?_
  simp only [go_sem, Nat.reduceAdd, Nat.reduceEqDiff, Nat.reduceLeDiff, true_and, List.length_map, hw]
  refine hK2 _ _ ?_; try clear hK2 K2
  conv => enter [5]; simp only [setL_cons, setL_nil, List.set_cons_zero, List.set_cons_succ]
  refine AW.seq_k fun K3 hK3 => ?_
  refine AW.regl false [4] (by rfl) fun K4 hK4 => ?_ -- region 2
  simp only [go_sem, Nat.reduceAdd, Nat.reduceEqDiff, Nat.reduceLeDiff, true_and, List.length_map]
  refine hK4 _ _ ?_; try clear hK4 K4
  conv => enter [5]; simp only [setL_cons, setL_nil, List.set_cons_zero, List.set_cons_succ]
  refine AW.block ?_
  refine AW.loop_wk (α := Nat) (fun i => [(rowAV 1 nl (l.map str)), .any, .any, (str (ptb l i)), (i64 (i : Nat)), .any, .any, .any, .any, .any, .any, .any, .any, .any, .any, .any, .any, .any, .any, .any, .any, .any, .any]) (fun i => σ) (fun i => l.length - i) (fun i => i ≤ l.length) 0 ?_ ?_
  · exact ⟨Nat.zero_le _, by simp [Wk, ptb], rfl⟩
  · intro i hi
    refine AW.seq_k fun K5 hK5 => ?_
    refine AW.regl false [12] (by rfl) fun K6 hK6 => ?_ -- region 3
    simp only [go_sem, Nat.reduceAdd, Nat.reduceEqDiff, Nat.reduceLeDiff, true_and, List.length_map]
    refine hK6 _ _ ?_; try clear hK6 K6
    conv => enter [5]; simp only [setL_cons, setL_nil, List.set_cons_zero, List.set_cons_succ]
    refine AW.cond rfl (fun hc12 => ?_) (fun hc12 => ?_)
    · skip
      have hi1 : i < l.length := by simpa using hc12
      have hx : (l.map str)[i]? = some (str l[i]) := by simp [hi1]
      have hc := cat_ba (a := ptb l i) (b := pt l[i]) 9 (by
        have h1 := ptb_size hl i (by omega)
        have h2 := pt_size l[i]
        have h3 := hl l[i] (List.getElem_mem hi1)
        omega)
      refine AW.skip ?_
      refine hK5 _ _ ?_; try clear hK5 K5
      refine AW.seq_k fun K7 hK7 => ?_
      refine AW.block ?_
      refine AW.lastl false [3] (by rfl) fun K hK => ?_ -- region 5
      simp only [go_sem, Nat.reduceAdd, Nat.reduceEqDiff, Nat.reduceLeDiff, true_and, List.length_map, at_row hx, hc]
      refine sC.of en25 ((rputtext_calls l[i] (by have := hl l[i] (List.getElem_mem hi1); omega)).on _).here (by rfl) ?_
      simp only [go_sem, Nat.reduceAdd, Nat.reduceEqDiff, Nat.reduceLeDiff, true_and, List.length_map, at_row hx, hc]
      refine hK _ _ fun env' hw => ?_
      simp only [setL_cons, setL_nil, List.set_cons_zero, List.set_cons_succ] at hw
      refine hK7 _ _ (AW.weaken hw ?_); clear hw; try clear hK7 K7
      refine AW.lastl false [4] (by rfl) fun K hK => ?_ -- region 4
      simp only [go_sem, Nat.reduceAdd, Nat.reduceEqDiff, Nat.reduceLeDiff, true_and, List.length_map]
      refine hK _ _ fun env' hw => ?_
      simp only [setL_cons, setL_nil, List.set_cons_zero, List.set_cons_succ] at hw
      refine ⟨i + 1, by omega, by omega, ?_, rfl⟩
      refine hw.trans ?_
      simp [Wk, wrap_succ (show i < 3000 by omega) (by decide), ptb_step hi1]
    · skip
      have hi1 : i = l.length := by
        have : ¬ i < l.length := by simpa using hc12
        omega
      subst hi1
      refine AW.exit ?_
      refine hK3 _ _ ?_; try clear hK3 K3
      refine AW.regl false [2] (by rfl) fun K8 hK8 => ?_ -- region 6
      simp only [go_sem, Nat.reduceAdd, Nat.reduceEqDiff, Nat.reduceLeDiff, true_and, List.length_map]
      refine hK8 _ _ ?_; try clear hK8 K8
      conv => enter [5]; simp only [setL_cons, setL_nil, List.set_cons_zero, List.set_cons_succ]
      refine AW.ret ⟨.inr rfl, _, rfl, by simp, ?_⟩ -- return 1
      exact .keep rfl

set_option maxRecDepth 100000 in
theorem radd_calls (nl : Bool) (l : List ByteArray) (s : ByteArray) (hl : l.length ≤ 3000) : APure prog Γ 7 [rowAV 1 nl (l.map str), str s] (.tup [rowAV 1 nl ((addL l s).map str), i64 (addI l s), i64 (addE l s)]) := by
  refine APure.of func7 rfl fun σ => ?_
  simp only [ntmps7, List.length_cons, List.length_nil, Nat.reduceAdd, Nat.reduceSub, List.replicate_succ, List.replicate_zero, List.cons_append, List.nil_append]
  refine AW.regl false [4, 5, 6] (by rfl) fun K1 hK1 => ?_ -- region 0
  simp only [go_sem, Nat.reduceAdd, Nat.reduceEqDiff, Nat.reduceLeDiff, true_and, List.length_map]
  refine hK1 _ _ ?_; try clear hK1 K1
  conv => enter [5]; simp only [setL_cons, setL_nil, List.set_cons_zero, List.set_cons_succ]
  refine AW.seq_k fun K2 hK2 => ?_
  refine AW.regl false [7] (by rfl) fun K3 hK3 => ?_ -- region 1
  simp only [go_sem, Nat.reduceAdd, Nat.reduceEqDiff, Nat.reduceLeDiff, true_and, List.length_map]
  refine sC.of en19 ((rfind_calls nl l s (by simp only [show maxLen = 9223372036854775807 by decide]; omega)).on _).here (by rfl) ?_
  simp only [go_sem, Nat.reduceAdd, Nat.reduceEqDiff, Nat.reduceLeDiff, true_and, List.length_map]
  refine hK3 _ _ ?_; try clear hK3 K3
  conv => enter [5]; simp only [setL_cons, setL_nil, List.set_cons_zero, List.set_cons_succ]
  refine AW.regl false [12] (by rfl) fun K4 hK4 => ?_ -- region 2
  simp only [go_sem, Nat.reduceAdd, Nat.reduceEqDiff, Nat.reduceLeDiff, true_and, List.length_map]
  refine hK4 _ _ ?_; try clear hK4 K4
  conv => enter [5]; simp only [setL_cons, setL_nil, List.set_cons_zero, List.set_cons_succ]
  refine AW.cond rfl (fun hc12 => ?_) (fun hc12 => ?_)
  · skip
    have hsome : (findS l s).isSome = true := by rw [← fR_ge]; exact hc12
    have hfi : fR l s = fdI l s := by
      unfold fR fdI
      cases h : findS l s with
      | none => rw [h] at hsome; cases hsome
      | some i => rfl
    refine AW.regl false [4, 5, 6] (by rfl) fun K5 hK5 => ?_ -- region 3
    simp only [go_sem, Nat.reduceAdd, Nat.reduceEqDiff, Nat.reduceLeDiff, true_and, List.length_map]
    refine hK5 _ _ ?_; try clear hK5 K5
    conv => enter [5]; simp only [setL_cons, setL_nil, List.set_cons_zero, List.set_cons_succ]
    refine AW.ret ⟨.inr rfl, _, rfl, by simp, ?_⟩
    rw [show addL l s = l by simp [addL, hsome], show addI l s = fR l s by simp [addI, hsome, hfi], show addE l s = 0 by simp [addE, hsome]]
    exact .keep (by simp [AV.bel, belL, row_strs])
  · skip
    have hnone : (findS l s).isSome = false := by rw [← fR_ge]; exact hc12
    refine AW.skip ?_
    refine hK2 _ _ ?_; try clear hK2 K2
    refine AW.seq_k fun K6 hK6 => ?_
    refine AW.regtf false 22 (.val (.bool (decide ((s.size : Int) > 65535) || decide ((l.length : Int) ≥ 16777215)))) (by rfl) ?_ ?_ -- region 4
    · skip
      cases h17 : (decide ((s.size : Int) > 65535))
      · skip
        simp only [go_sem, Nat.reduceAdd, Nat.reduceEqDiff, Nat.reduceLeDiff, true_and, List.length_map, h17]
        try simp [upd_at, h17, List.length_map]
      · skip
        simp only [go_sem, Nat.reduceAdd, Nat.reduceEqDiff, Nat.reduceLeDiff, true_and, List.length_map, h17]
        try simp [upd_at, h17, List.length_map]
    conv => enter [5]; simp only [List.set_cons_zero, List.set_cons_succ]
    refine AW.cond rfl (fun hc22 => ?_) (fun hc22 => ?_)
    · skip
      refine AW.regl false [4, 5, 6] (by rfl) fun K8 hK8 => ?_ -- region 5
      simp only [go_sem, Nat.reduceAdd, Nat.reduceEqDiff, Nat.reduceLeDiff, true_and, List.length_map]
      refine hK8 _ _ ?_; try clear hK8 K8
      conv => enter [5]; simp only [setL_cons, setL_nil, List.set_cons_zero, List.set_cons_succ]
      have ht : tooMuch l s = true := hc22
      refine AW.ret ⟨.inr rfl, _, rfl, by simp, ?_⟩
      rw [show addL l s = l by simp [addL, hnone, ht], show addI l s = 0 by simp [addI, hnone, ht], show addE l s = 4 by simp [addE, hnone, ht]]
      exact .keep (by simp [AV.bel, belL, row_strs])
    · skip
      refine AW.skip ?_
      refine hK6 _ _ ?_; try clear hK6 K6
      have hap1 : ∀ (σ : Sto) (k : Nat), appAt (σ ++ [.cap 0 1]) false 1 16 [] σ.length (l.map str) (some (.cap 0 1)) = some (.slo false 1 (l.map str) σ.length, σ ++ [.cap l.length 1]) := by
        intro σ _
        have := ap_all (σ ++ [.cap 0 1]) σ.length (l.map str) (by simp; omega) (by simp)
        rw [this, app_set0, List.length_map]
        rfl
      have hap2 : ∀ (σ : Sto), appAt (σ ++ [.cap l.length 1]) false 1 16 (l.map str) σ.length [str s] (some (.cap l.length 1)) = some (.slo false 1 (l.map str ++ [str s]) σ.length, σ ++ [.cap (l.length + 1) 1]) := by
        intro σ
        have := appAt_one (σ ++ [.cap l.length 1]) false 1 16 (l.map str) σ.length l.length (str s) (by simp) (by simp only [fits, List.length_map, Bool.and_eq_true, decide_eq_true_eq]; omega)
        rw [this, app_set0, List.length_map]
        rfl
      have hap1 := hap1 σ 0
      refine AW.regl false [4, 5, 6] (by rfl) fun K9 hK9 => ?_ -- region 6
      simp only [go_sem, Nat.reduceAdd, Nat.reduceEqDiff, Nat.reduceLeDiff, true_and, List.length_map, srcS_row, hap1, hap2, row1_22 _ (str s) rfl rfl]
      refine hK9 _ _ ?_; try clear hK9 K9
      conv => enter [5]; simp only [setL_cons, setL_nil, List.set_cons_zero, List.set_cons_succ]
      have ht : tooMuch l s = false := hc22
      refine AW.ret ⟨.inr rfl, _, rfl, by simp, ?_⟩
      rw [show addL l s = l ++ [s] by simp [addL, hnone, ht], show addI l s = l.length by simp [addI, hnone, ht], show addE l s = 0 by simp [addE, hnone, ht]]
      exact .tup (.cons (frz_strs _ _ (by omega)) (.cons (.keep rfl) (.cons (.keep rfl) .nil)))
end Go.Proofs.Try

