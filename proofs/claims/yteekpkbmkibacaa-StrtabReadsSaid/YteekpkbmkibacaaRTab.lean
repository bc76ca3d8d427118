import Derived.Test.YteekpkbmkibacaaRTy
import Derived.Test.YteekpkbmkibacaaREvMapS
/-! Tables of texts: what the functions come to. -/
namespace Go.Proofs.Try
set_option linter.unusedSimpArgs false
set_option linter.unusedVariables false
open Go Go.Proofs.Ev
variable {Γ : List (Nat × List AV)}
abbrev i64 (n : Int) : AV := .val (.int .i64 n)
abbrev str (s : ByteArray) : AV := .val (.string s)
abbrev bool (b : Bool) : AV := .val (.bool b)
def idx (n : Nat) : List AV := (List.range n).map fun i => i64 (i : Nat)
/-- A table as it lives: its map, itself, the right to append to its texts. -/
def tab (n : Nat) (l : List ByteArray) (τ : Sto) : Sto := .map (l.map Value.string) (idx l.length) :: .cells [.slo true 1 (l.map str) (n + 2), .mapo n] :: .cap l.length 1 :: τ
def fdI (l : List ByteArray) (s : ByteArray) : Int := (((findS l s).getD 0 : Nat) : Int)
theorem idx_len (n : Nat) : (idx n).length = n := by simp [idx]
theorem idx_get {n i : Nat} (h : i < n) : (idx n)[i]? = some (i64 (i : Nat)) := by simp [idx, h]
theorem idx_push (n : Nat) : (idx n ++ [i64 0]).set n (i64 (n : Nat)) = idx (n + 1) := by
  rw [List.set_append_right _ _ (by rw [idx_len]; exact Nat.le_refl _), idx_len, Nat.sub_self]
  simp [idx, List.range_succ]
theorem lk_tab (l : List ByteArray) (s : ByteArray) : lkS (i64 0) (idx l.length) (findS l s) = some (.tup [i64 (fdI l s), bool (findS l s).isSome]) := by
  cases h : findS l s with
  | none => simp [lkS, fdI, h]
  | some i => simp [lkS, fdI, h, idx_get (findS_lt h).1]
theorem lk_at (σ τ : Sto) (l : List ByteArray) (s : ByteArray) : aLookup prog (σ ++ .map (l.map Value.string) (idx l.length) :: τ) 49 true (.mapo σ.length) (str s) = some (.tup [i64 (fdI l s), bool (findS l s).isSome]) := by
  rw [← lk_tab]
  exact lookup_str underlying49 underlying9 zero3 (mapParts_o ((app_get0 σ _).trans rfl)) s
theorem me_at (σ τ : Sto) {l : List ByteArray} {s : ByteArray} (h : findS l s = none) : aMapEntry prog (σ ++ .map (l.map Value.string) (idx l.length) :: τ) 49 (.mapo σ.length) (str s) = some (.tup [i64 0, i64 l.length], σ ++ .map ((l ++ [s]).map Value.string) (idx l.length ++ [i64 0]) :: τ) := by
  rw [mapEntry_new underlying49 underlying9 zero3 ((app_get0 σ _).trans rfl) h, app_set0]
  rfl
theorem es_at (σ τ : Sto) (ks : List Value) (n : Nat) (v : AV) : aEntryStore (σ ++ .map ks (idx n ++ [i64 0]) :: τ) (.mapo σ.length) (i64 n) v = some (σ ++ .map ks ((idx n ++ [i64 0]).set n v) :: τ) := by
  rw [entryStore_at ((app_get0 σ _).trans rfl) (by simp [idx_len]), app_set0]
  rfl
theorem ap_at (σ : Sto) (l : List ByteArray) (hl : l.length ≤ 16777215) (v : AV) (k : Nat) : appAt σ true 1 16 (l.map str) k [v] (some (.cap l.length 1)) = some (.slo true 1 (l.map str ++ [v]) k, σ.set k (.cap (l.length + 1) 1)) := by
  have := appAt_one σ true 1 16 (l.map str) k l.length v (by simp) (by
    simp only [fits, List.length_map, Bool.and_eq_true, decide_eq_true_eq]
    omega)
  rwa [List.length_map] at this
theorem saved_tab (σ τ : Sto) (a b : AO) (n m : Nat) : Saved (σ ++ a :: b :: .cap n 1 :: τ) (σ ++ a :: b :: .cap m 1 :: τ) := by
  have := Saved.setCap (σ := σ ++ a :: b :: .cap n 1 :: τ) (k := σ.length + 2) (n := n) (sz := 1) (x := .cap m 1) ((app_get σ _ 2).trans rfl)
  rwa [app_set] at this
def tooMuch (l : List ByteArray) (s : ByteArray) : Bool := decide ((s.size : Int) > 65535) || decide ((l.length : Int) ≥ 16777215)
def addI (l : List ByteArray) (s : ByteArray) : Int := if (findS l s).isSome then fdI l s else if tooMuch l s then 0 else l.length
def addE (l : List ByteArray) (s : ByteArray) : Int := if (findS l s).isSome then 0 else if tooMuch l s then 4 else 0
def addL (l : List ByteArray) (s : ByteArray) : List ByteArray := if (findS l s).isSome then l else if tooMuch l s then l else l ++ [s]
set_option maxRecDepth 100000 in
theorem len_calls (σ τ : Sto) (l : List ByteArray) : ACalls prog Γ 20 [.ref (σ.length + 1) 0] (σ ++ tab σ.length l τ) (fun v σ' => σ' = σ ++ tab σ.length l τ ∧ v = i64 l.length) := by
  refine ACalls.of func20 rfl ?_
  simp only [ntmps20, List.length_cons, List.length_nil, Nat.reduceAdd, Nat.reduceSub, List.replicate_succ, List.replicate_zero, List.cons_append, List.nil_append]
  refine AW.regl false [2] (by rfl) fun K1 hK1 => ?_ -- region 0
  simp only [go_sem, Nat.reduceAdd, Nat.reduceEqDiff, Nat.reduceLeDiff, true_and, tab, List.length_map, aExtract]
  refine hK1 _ _ ?_; try clear hK1 K1
  conv => enter [5]; simp only [setL_cons, setL_nil, List.set_cons_zero, List.set_cons_succ]
  refine AW.regl false [2] (by rfl) fun K2 hK2 => ?_ -- region 1
  simp only [go_sem, Nat.reduceAdd, Nat.reduceEqDiff, Nat.reduceLeDiff, true_and, tab, List.length_map, aExtract]
  refine hK2 _ _ ?_; try clear hK2 K2
  conv => enter [5]; simp only [setL_cons, setL_nil, List.set_cons_zero, List.set_cons_succ]
  exact AW.ret ⟨.inr rfl, _, rfl, rfl, rfl⟩

set_option maxRecDepth 100000 in
theorem get_calls (σ τ : Sto) (l : List ByteArray) (i : Int) : ACalls prog Γ 10 [.ref (σ.length + 1) 0, i64 i] (σ ++ tab σ.length l τ) (fun v σ' => σ' = σ ++ tab σ.length l τ ∧ v = if 0 ≤ i ∧ i < l.length then .tup [str (l.getD i.toNat ⟨#[]⟩), bool true] else .tup [str ⟨#[]⟩, bool false]) := by
  refine ACalls.of func10 rfl ?_
  simp only [ntmps10, List.length_cons, List.length_nil, Nat.reduceAdd, Nat.reduceSub, List.replicate_succ, List.replicate_zero, List.cons_append, List.nil_append]
  refine AW.regl false [4, 5] (by rfl) fun K1 hK1 => ?_ -- region 0
  simp only [go_sem, Nat.reduceAdd, Nat.reduceEqDiff, Nat.reduceLeDiff, true_and, tab, List.length_map, aExtract]
  refine hK1 _ _ ?_; try clear hK1 K1
  conv => enter [5]; simp only [setL_cons, setL_nil, List.set_cons_zero, List.set_cons_succ]
  refine AW.seq_k fun K2 hK2 => ?_
  refine AW.regtf false 16 (.val (.bool (decide (i < 0) || decide (i ≥ (l.length : Int))))) (by rfl) ?_ ?_ -- region 1
  · skip
    cases h7 : (decide (i < 0))
    · skip
      simp only [go_sem, Nat.reduceAdd, Nat.reduceEqDiff, Nat.reduceLeDiff, true_and, tab, List.length_map, aExtract, h7]
      try simp [upd_at, h7, tab, List.length_map, aExtract]
    · skip
      simp only [go_sem, Nat.reduceAdd, Nat.reduceEqDiff, Nat.reduceLeDiff, true_and, tab, List.length_map, aExtract, h7]
      try simp [upd_at, h7, tab, List.length_map, aExtract]
  conv => enter [5]; simp only [List.set_cons_zero, List.set_cons_succ]
  refine AW.cond rfl (fun hc16 => ?_) (fun hc16 => ?_)
  · skip
    have h0 : ¬ (0 ≤ i ∧ i < l.length) := by simp only [Bool.or_eq_true, decide_eq_true_eq] at hc16; omega
    refine AW.regl false [4, 5] (by rfl) fun K4 hK4 => ?_ -- region 2
    simp only [go_sem, Nat.reduceAdd, Nat.reduceEqDiff, Nat.reduceLeDiff, true_and, tab, List.length_map, aExtract]
    refine hK4 _ _ ?_; try clear hK4 K4
    conv => enter [5]; simp only [setL_cons, setL_nil, List.set_cons_zero, List.set_cons_succ]
    exact AW.ret ⟨.inr rfl, _, rfl, rfl, by rw [if_neg h0]⟩
  · skip
    have h0 : 0 ≤ i ∧ i < l.length := by simp only [Bool.or_eq_false_iff, decide_eq_false_iff_not] at hc16; omega
    obtain ⟨j, rfl⟩ := Int.eq_ofNat_of_zero_le h0.1
    have hj : j < l.length := by omega
    have hx : (l.map str)[j]? = some (str (l.getD j ⟨#[]⟩)) := by simp [hj]
    refine AW.skip ?_
    refine hK2 _ _ ?_; try clear hK2 K2
    refine AW.regl false [4, 5] (by rfl) fun K5 hK5 => ?_ -- region 3
    simp only [go_sem, Nat.reduceAdd, Nat.reduceEqDiff, Nat.reduceLeDiff, true_and, tab, List.length_map, aExtract, at_slo hx]
    refine hK5 _ _ ?_; try clear hK5 K5
    conv => enter [5]; simp only [setL_cons, setL_nil, List.set_cons_zero, List.set_cons_succ]
    exact AW.ret ⟨.inr rfl, _, rfl, rfl, by rw [if_pos h0]; rfl⟩

set_option maxRecDepth 100000 in
theorem find_calls (σ τ : Sto) (l : List ByteArray) (s : ByteArray) : ACalls prog Γ 21 [.ref (σ.length + 1) 0, str s] (σ ++ tab σ.length l τ) (fun v σ' => σ' = σ ++ tab σ.length l τ ∧ v = .tup [i64 (fdI l s), bool (findS l s).isSome]) := by
  refine ACalls.of func21 rfl ?_
  simp only [ntmps21, List.length_cons, List.length_nil, Nat.reduceAdd, Nat.reduceSub, List.replicate_succ, List.replicate_zero, List.cons_append, List.nil_append]
  refine AW.regl false [4, 5] (by rfl) fun K1 hK1 => ?_ -- region 0
  simp only [go_sem, Nat.reduceAdd, Nat.reduceEqDiff, Nat.reduceLeDiff, true_and, tab, List.length_map, aExtract]
  refine hK1 _ _ ?_; try clear hK1 K1
  conv => enter [5]; simp only [setL_cons, setL_nil, List.set_cons_zero, List.set_cons_succ]
  refine AW.regl false [6, 7] (by rfl) fun K2 hK2 => ?_ -- region 1
  simp only [go_sem, Nat.reduceAdd, Nat.reduceEqDiff, Nat.reduceLeDiff, true_and, tab, List.length_map, aExtract, lk_at]
  refine hK2 _ _ ?_; try clear hK2 K2
  conv => enter [5]; simp only [setL_cons, setL_nil, List.set_cons_zero, List.set_cons_succ]
  refine AW.regl false [4, 5] (by rfl) fun K3 hK3 => ?_ -- region 2
  simp only [go_sem, Nat.reduceAdd, Nat.reduceEqDiff, Nat.reduceLeDiff, true_and, tab, List.length_map, aExtract]
  refine hK3 _ _ ?_; try clear hK3 K3
  conv => enter [5]; simp only [setL_cons, setL_nil, List.set_cons_zero, List.set_cons_succ]
  exact AW.ret ⟨.inr rfl, _, rfl, rfl, rfl⟩

set_option maxRecDepth 100000 in
theorem add_calls (σ τ : Sto) (l : List ByteArray) (s : ByteArray) : ACalls prog Γ 6 [.ref (σ.length + 1) 0, str s] (σ ++ tab σ.length l τ) (fun v σ' => v = .tup [i64 (addI l s), i64 (addE l s)] ∧ σ' = σ ++ tab σ.length (addL l s) τ) := by
  refine ACalls.of func6 rfl ?_
  simp only [ntmps6, List.length_cons, List.length_nil, Nat.reduceAdd, Nat.reduceSub, List.replicate_succ, List.replicate_zero, List.cons_append, List.nil_append]
  refine AW.regl false [4, 5] (by rfl) fun K1 hK1 => ?_ -- region 0
  simp only [go_sem, Nat.reduceAdd, Nat.reduceEqDiff, Nat.reduceLeDiff, true_and, tab, List.length_map, aExtract]
  refine hK1 _ _ ?_; try clear hK1 K1
  conv => enter [5]; simp only [setL_cons, setL_nil, List.set_cons_zero, List.set_cons_succ]
  refine AW.seq_k fun K2 hK2 => ?_
  refine AW.regl false [6, 7] (by rfl) fun K3 hK3 => ?_ -- region 1
  simp only [go_sem, Nat.reduceAdd, Nat.reduceEqDiff, Nat.reduceLeDiff, true_and, tab, List.length_map, aExtract, lk_at]
  refine hK3 _ _ ?_; try clear hK3 K3
  conv => enter [5]; simp only [setL_cons, setL_nil, List.set_cons_zero, List.set_cons_succ]
  refine AW.regl false [18] (by rfl) fun K4 hK4 => ?_ -- region 2
  simp only [go_sem, Nat.reduceAdd, Nat.reduceEqDiff, Nat.reduceLeDiff, true_and, tab, List.length_map, aExtract]
  refine hK4 _ _ ?_; try clear hK4 K4
  conv => enter [5]; simp only [setL_cons, setL_nil, List.set_cons_zero, List.set_cons_succ]
  refine AW.cond rfl (fun hc18 => ?_) (fun hc18 => ?_)
  · skip
    refine AW.regl false [4, 5] (by rfl) fun K5 hK5 => ?_ -- region 3
    simp only [go_sem, Nat.reduceAdd, Nat.reduceEqDiff, Nat.reduceLeDiff, true_and, tab, List.length_map, aExtract]
    refine hK5 _ _ ?_; try clear hK5 K5
    conv => enter [5]; simp only [setL_cons, setL_nil, List.set_cons_zero, List.set_cons_succ]
    exact AW.ret ⟨.inr rfl, _, rfl, by simp [addI, addE, hc18], by simp [addL, hc18, tab]⟩
  · skip
    have hnone : findS l s = none := by simpa using hc18
    refine AW.skip ?_
    refine hK2 _ _ ?_; try clear hK2 K2
    refine AW.seq_k fun K6 hK6 => ?_
    refine AW.regtf false 30 (.val (.bool (decide ((s.size : Int) > 65535) || decide ((l.length : Int) ≥ 16777215)))) (by rfl) ?_ ?_ -- region 4
    · skip
      cases h22 : (decide ((s.size : Int) > 65535))
      · skip
        simp only [go_sem, Nat.reduceAdd, Nat.reduceEqDiff, Nat.reduceLeDiff, true_and, tab, List.length_map, aExtract, h22]
        try simp [upd_at, h22, tab, List.length_map, aExtract]
      · skip
        simp only [go_sem, Nat.reduceAdd, Nat.reduceEqDiff, Nat.reduceLeDiff, true_and, tab, List.length_map, aExtract, h22]
        try simp [upd_at, h22, tab, List.length_map, aExtract]
    conv => enter [5]; simp only [List.set_cons_zero, List.set_cons_succ]
    refine AW.cond rfl (fun hc30 => ?_) (fun hc30 => ?_)
    · skip
      refine AW.regl false [4, 5] (by rfl) fun K8 hK8 => ?_ -- region 5
      simp only [go_sem, Nat.reduceAdd, Nat.reduceEqDiff, Nat.reduceLeDiff, true_and, tab, List.length_map, aExtract]
      refine hK8 _ _ ?_; try clear hK8 K8
      conv => enter [5]; simp only [setL_cons, setL_nil, List.set_cons_zero, List.set_cons_succ]
      exact AW.ret ⟨.inr rfl, _, rfl, by simp [addI, addE, hnone, show tooMuch l s = _ from hc30], by simp [addL, hnone, show tooMuch l s = _ from hc30, tab]⟩
    · skip
      have h0 : ¬ (s.size : Int) > 65535 ∧ ¬ (l.length : Int) ≥ 16777215 := by simpa using hc30
      have hle : l.length ≤ 16777215 := by omega
      refine AW.skip ?_
      refine hK6 _ _ ?_; try clear hK6 K6
      refine AW.regl false [8] (by rfl) fun K9 hK9 => ?_ -- region 6
      simp only [go_sem, Nat.reduceAdd, Nat.reduceEqDiff, Nat.reduceLeDiff, true_and, tab, List.length_map, aExtract]
      refine hK9 _ _ ?_; try clear hK9 K9
      conv => enter [5]; simp only [setL_cons, setL_nil, List.set_cons_zero, List.set_cons_succ]
      refine AW.regxl mixed [] 12 (by kernel_rfl) (by rfl) ?_ fun K10 hK10 => ?_ -- region 7
      · simp only [go_sem, Nat.reduceAdd, Nat.reduceEqDiff, Nat.reduceLeDiff, true_and, tab, List.length_map, aExtract, ap_at _ l hle, row1_22 _ (str s) rfl rfl, me_at σ _ hnone, es_at, idx_push]
        exact saved_tab _ _ _ _ _ _
      simp only [go_sem, Nat.reduceAdd, Nat.reduceEqDiff, Nat.reduceLeDiff, true_and, tab, List.length_map, aExtract, ap_at _ l hle, row1_22 _ (str s) rfl rfl, me_at σ _ hnone, es_at, idx_push]
      refine hK10 _ _ ?_; try clear hK10 K10
      conv => enter [5]; simp only [setL_cons, setL_nil, List.set_cons_zero, List.set_cons_succ, upd_none, upd_at]
      refine AW.regl false [4, 5] (by rfl) fun K11 hK11 => ?_ -- region 8
      simp only [go_sem, Nat.reduceAdd, Nat.reduceEqDiff, Nat.reduceLeDiff, true_and, tab, List.length_map, aExtract]
      refine hK11 _ _ ?_; try clear hK11 K11
      conv => enter [5]; simp only [setL_cons, setL_nil, List.set_cons_zero, List.set_cons_succ]
      exact AW.ret ⟨.inr rfl, _, rfl, by simp [addI, addE, hnone, show tooMuch l s = _ from hc30], by simp [addL, hnone, show tooMuch l s = _ from hc30, tab]⟩
end Go.Proofs.Try

