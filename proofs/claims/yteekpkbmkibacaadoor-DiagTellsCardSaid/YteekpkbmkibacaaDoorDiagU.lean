import Derived.Test.YteekpkbmkibacaaDoorDiagK
import Derived.Test.YteekpkbmkibacaaDoorDiagK
/-! Whether two lists are the same. -/
namespace Go.Proofs.Tryd
set_option linter.unusedSimpArgs false
set_option linter.unusedVariables false
open Go Go.Proofs.Ev
variable {Γ : List (Nat × List AV)}
set_option maxRecDepth 100000 in
theorem equal106 {α κ : Type} [DecidableEq κ] (en : α → AV) (key : α → κ) (hen : ∀ a, aGet prog 26 (en a).cells = some (en a)) (hneq : ∀ a b, aBin prog .neq 26 (en a) (en b) = some (.val (.bool !decide (key a = key b)))) (nl nl' : Bool) (l l' : List α) (hl : l.length ≤ maxLen) : APure prog Γ 106 [rowAV 2 nl (l.map en), rowAV 2 nl' (l'.map en)] (.val (.bool (decide (l.map key = l'.map key)))) := by
  refine APure.of func106 rfl fun σ => ?_
  simp only [ntmps106, List.length_cons, List.length_nil, Nat.reduceAdd, Nat.reduceSub, List.replicate_succ, List.replicate_zero, List.cons_append, List.nil_append]
  refine AW.regl false [4] (by rfl) fun K1 hK1 => ?_ -- region 0
  simp only [go_sem, Nat.reduceAdd, Nat.reduceEqDiff, Nat.reduceLeDiff, true_and, List.length_map, hen]
  refine hK1 _ _ ?_; try clear hK1 K1
  conv => enter [4]; simp only [setL_cons, setL_nil, List.set_cons_zero, List.set_cons_succ]
  refine AW.seq_k fun K2 hK2 => ?_
  refine AW.regl false [10] (by rfl) fun K3 hK3 => ?_ -- region 1
  simp only [go_sem, Nat.reduceAdd, Nat.reduceEqDiff, Nat.reduceLeDiff, true_and, List.length_map, hen]
  refine hK3 _ _ ?_; try clear hK3 K3
  conv => enter [4]; simp only [setL_cons, setL_nil, List.set_cons_zero, List.set_cons_succ]
  refine AW.cond rfl (fun hc10 => ?_) (fun hc10 => ?_)
  · skip
    refine AW.regl false [4] (by rfl) fun K4 hK4 => ?_ -- region 2
    simp only [go_sem, Nat.reduceAdd, Nat.reduceEqDiff, Nat.reduceLeDiff, true_and, List.length_map, hen]
    refine hK4 _ _ ?_; try clear hK4 K4
    conv => enter [4]; simp only [setL_cons, setL_nil, List.set_cons_zero, List.set_cons_succ]
    refine AW.ret ⟨.inr rfl, _, rfl, by simp, ?_⟩ -- return 1
    refine frzB ?_
    refine (decide_eq_false fun e => ?_).symm
    have := map_len e
    simp [this] at hc10
  · skip
    have hl0 : l.length = l'.length := by
      have : (l.length : Int) = l'.length := by simpa using hc10
      omega
    refine AW.skip ?_
    refine hK2 _ _ ?_; try clear hK2 K2
    refine AW.seq_k fun K5 hK5 => ?_
    refine AW.regl false [12, 13] (by rfl) fun K6 hK6 => ?_ -- region 3
    simp only [go_sem, Nat.reduceAdd, Nat.reduceEqDiff, Nat.reduceLeDiff, true_and, List.length_map, hen]
    refine hK6 _ _ ?_; try clear hK6 K6
    conv => enter [4]; simp only [setL_cons, setL_nil, List.set_cons_zero, List.set_cons_succ]
    refine AW.block ?_
    refine AW.loop_wk (α := Nat) (fun i => [(rowAV 2 nl (l.map en)), (rowAV 2 nl' (l'.map en)), .any, .any, .any, .any, .any, .any, .any, .any, .any, .any, (.val (.int .i64 (l.length : Nat))), (.val (.int .i64 (i : Nat))), .any, .any, .any, .any, .any, .any, .any, .any, .any, .any, .any, .any]) (fun i => σ) (fun i => l.length - i) (fun i => i ≤ l.length ∧ (l.take i).map key = (l'.take i).map key) 0 ?_ ?_
    · exact ⟨⟨Nat.zero_le _, rfl⟩, by simp [Wk], rfl⟩
    · rintro i ⟨hi, hit⟩
      refine AW.regl false [14] (by rfl) fun K7 hK7 => ?_ -- region 4
      simp only [go_sem, Nat.reduceAdd, Nat.reduceEqDiff, Nat.reduceLeDiff, true_and, List.length_map, hen]
      refine hK7 _ _ ?_; try clear hK7 K7
      conv => enter [4]; simp only [setL_cons, setL_nil, List.set_cons_zero, List.set_cons_succ]
      refine AW.seq_k fun K8 hK8 => ?_
      refine AW.cond rfl (fun hc14 => ?_) (fun hc14 => ?_)
      · skip
        have hi1 : i < l.length := by simpa using hc14
        have hi2 : i < l'.length := by rw [← hl0]; exact hi1
        obtain ⟨u, hu⟩ : ∃ z, z = l[i] := ⟨_, rfl⟩
        obtain ⟨v, hv⟩ : ∃ z, z = l'[i] := ⟨_, rfl⟩
        have gu : (l.map en)[i]? = some (en u) := by rw [hu]; simp [hi1]
        have gv : (l'.map en)[i]? = some (en v) := by rw [hv]; simp [hi2]
        refine AW.skip ?_
        refine hK8 _ _ ?_; try clear hK8 K8
        refine AW.seq_k fun K9 hK9 => ?_
        refine AW.block ?_
        refine AW.regl false [5] (by rfl) fun K10 hK10 => ?_ -- region 5
        simp only [go_sem, Nat.reduceAdd, Nat.reduceEqDiff, Nat.reduceLeDiff, true_and, List.length_map, hen]
        refine hK10 _ _ ?_; try clear hK10 K10
        conv => enter [4]; simp only [setL_cons, setL_nil, List.set_cons_zero, List.set_cons_succ]
        refine AW.regdl mixed false [24] (by kernel_rfl) (by rfl) fun K11 hK11 => ?_ -- region 6
        simp only [go_sem, Nat.reduceAdd, Nat.reduceEqDiff, Nat.reduceLeDiff, true_and, List.length_map, hen, at_row gu, at_row gv, hneq]
        refine hK11 _ ?_; try clear hK11 K11
        conv => enter [4]; simp only [setL_cons, setL_nil, List.set_cons_zero, List.set_cons_succ]
        refine AW.cond rfl (fun hc24 => ?_) (fun hc24 => ?_)
        · skip
          refine AW.regl false [4] (by rfl) fun K12 hK12 => ?_ -- region 7
          simp only [go_sem, Nat.reduceAdd, Nat.reduceEqDiff, Nat.reduceLeDiff, true_and, List.length_map, hen]
          refine hK12 _ _ ?_; try clear hK12 K12
          conv => enter [4]; simp only [setL_cons, setL_nil, List.set_cons_zero, List.set_cons_succ]
          refine AW.ret ⟨.inr rfl, _, rfl, by simp, ?_⟩ -- return 2
          refine frzB ?_
          exact (decide_eq_false (eq_at hi1 hi2 (by rw [← hu, ← hv]; exact not_dec hc24))).symm
        · skip
          refine AW.skip ?_
          refine hK9 _ _ ?_; try clear hK9 K9
          refine AW.lastl false [13] (by rfl) fun K hK => ?_ -- region 8
          simp only [go_sem, Nat.reduceAdd, Nat.reduceEqDiff, Nat.reduceLeDiff, true_and, List.length_map, hen]
          refine hK _ _ fun env' hw => ?_
          simp only [setL_cons, setL_nil, List.set_cons_zero, List.set_cons_succ] at hw
          refine ⟨i + 1, by omega, ⟨by omega, eq_step hi1 hi2 hit (by rw [← hu, ← hv]; exact dec_of hc24)⟩, ?_, rfl⟩
          refine hw.trans ?_
          simp [Wk, wrap_succ hi1 hl]
      · skip
        have hi1 : ¬ i < l.length := by simpa using hc14
        have hZ := eq_end hi1 hl0 hit
        refine AW.exit ?_
        refine hK5 _ _ ?_; try clear hK5 K5
        refine AW.regl false [4] (by rfl) fun K13 hK13 => ?_ -- region 9
        simp only [go_sem, Nat.reduceAdd, Nat.reduceEqDiff, Nat.reduceLeDiff, true_and, List.length_map, hen]
        refine hK13 _ _ ?_; try clear hK13 K13
        conv => enter [4]; simp only [setL_cons, setL_nil, List.set_cons_zero, List.set_cons_succ]
        refine AW.ret ⟨.inr rfl, _, rfl, by simp, ?_⟩ -- return 3
        refine frzB ?_
        exact (decide_eq_true hZ).symm

set_option maxRecDepth 100000 in
theorem equal87 {α κ : Type} [DecidableEq κ] (en : α → AV) (key : α → κ) (hen : ∀ a, aGet prog 28 (en a).cells = some (en a)) (hneq : ∀ a b, aBin prog .neq 28 (en a) (en b) = some (.val (.bool !decide (key a = key b)))) (nl nl' : Bool) (l l' : List α) (hl : l.length ≤ maxLen) : APure prog Γ 87 [rowAV 2 nl (l.map en), rowAV 2 nl' (l'.map en)] (.val (.bool (decide (l.map key = l'.map key)))) := by
  refine APure.of func87 rfl fun σ => ?_
  simp only [ntmps87, List.length_cons, List.length_nil, Nat.reduceAdd, Nat.reduceSub, List.replicate_succ, List.replicate_zero, List.cons_append, List.nil_append]
  refine AW.regl false [4] (by rfl) fun K1 hK1 => ?_ -- region 0
  simp only [go_sem, Nat.reduceAdd, Nat.reduceEqDiff, Nat.reduceLeDiff, true_and, List.length_map, hen]
  refine hK1 _ _ ?_; try clear hK1 K1
  conv => enter [4]; simp only [setL_cons, setL_nil, List.set_cons_zero, List.set_cons_succ]
  refine AW.seq_k fun K2 hK2 => ?_
  refine AW.regl false [10] (by rfl) fun K3 hK3 => ?_ -- region 1
  simp only [go_sem, Nat.reduceAdd, Nat.reduceEqDiff, Nat.reduceLeDiff, true_and, List.length_map, hen]
  refine hK3 _ _ ?_; try clear hK3 K3
  conv => enter [4]; simp only [setL_cons, setL_nil, List.set_cons_zero, List.set_cons_succ]
  refine AW.cond rfl (fun hc10 => ?_) (fun hc10 => ?_)
  · skip
    refine AW.regl false [4] (by rfl) fun K4 hK4 => ?_ -- region 2
    simp only [go_sem, Nat.reduceAdd, Nat.reduceEqDiff, Nat.reduceLeDiff, true_and, List.length_map, hen]
    refine hK4 _ _ ?_; try clear hK4 K4
    conv => enter [4]; simp only [setL_cons, setL_nil, List.set_cons_zero, List.set_cons_succ]
    refine AW.ret ⟨.inr rfl, _, rfl, by simp, ?_⟩ -- return 1
    refine frzB ?_
    refine (decide_eq_false fun e => ?_).symm
    have := map_len e
    simp [this] at hc10
  · skip
    have hl0 : l.length = l'.length := by
      have : (l.length : Int) = l'.length := by simpa using hc10
      omega
    refine AW.skip ?_
    refine hK2 _ _ ?_; try clear hK2 K2
    refine AW.seq_k fun K5 hK5 => ?_
    refine AW.regl false [12, 13] (by rfl) fun K6 hK6 => ?_ -- region 3
    simp only [go_sem, Nat.reduceAdd, Nat.reduceEqDiff, Nat.reduceLeDiff, true_and, List.length_map, hen]
    refine hK6 _ _ ?_; try clear hK6 K6
    conv => enter [4]; simp only [setL_cons, setL_nil, List.set_cons_zero, List.set_cons_succ]
    refine AW.block ?_
    refine AW.loop_wk (α := Nat) (fun i => [(rowAV 2 nl (l.map en)), (rowAV 2 nl' (l'.map en)), .any, .any, .any, .any, .any, .any, .any, .any, .any, .any, (.val (.int .i64 (l.length : Nat))), (.val (.int .i64 (i : Nat))), .any, .any, .any, .any, .any, .any, .any, .any, .any, .any, .any, .any]) (fun i => σ) (fun i => l.length - i) (fun i => i ≤ l.length ∧ (l.take i).map key = (l'.take i).map key) 0 ?_ ?_
    · exact ⟨⟨Nat.zero_le _, rfl⟩, by simp [Wk], rfl⟩
    · rintro i ⟨hi, hit⟩
      refine AW.regl false [14] (by rfl) fun K7 hK7 => ?_ -- region 4
      simp only [go_sem, Nat.reduceAdd, Nat.reduceEqDiff, Nat.reduceLeDiff, true_and, List.length_map, hen]
      refine hK7 _ _ ?_; try clear hK7 K7
      conv => enter [4]; simp only [setL_cons, setL_nil, List.set_cons_zero, List.set_cons_succ]
      refine AW.seq_k fun K8 hK8 => ?_
      refine AW.cond rfl (fun hc14 => ?_) (fun hc14 => ?_)
      · skip
        have hi1 : i < l.length := by simpa using hc14
        have hi2 : i < l'.length := by rw [← hl0]; exact hi1
        obtain ⟨u, hu⟩ : ∃ z, z = l[i] := ⟨_, rfl⟩
        obtain ⟨v, hv⟩ : ∃ z, z = l'[i] := ⟨_, rfl⟩
        have gu : (l.map en)[i]? = some (en u) := by rw [hu]; simp [hi1]
        have gv : (l'.map en)[i]? = some (en v) := by rw [hv]; simp [hi2]
        refine AW.skip ?_
        refine hK8 _ _ ?_; try clear hK8 K8
        refine AW.seq_k fun K9 hK9 => ?_
        refine AW.block ?_
        refine AW.regl false [5] (by rfl) fun K10 hK10 => ?_ -- region 5
        simp only [go_sem, Nat.reduceAdd, Nat.reduceEqDiff, Nat.reduceLeDiff, true_and, List.length_map, hen]
        refine hK10 _ _ ?_; try clear hK10 K10
        conv => enter [4]; simp only [setL_cons, setL_nil, List.set_cons_zero, List.set_cons_succ]
        refine AW.regdl mixed false [24] (by kernel_rfl) (by rfl) fun K11 hK11 => ?_ -- region 6
        simp only [go_sem, Nat.reduceAdd, Nat.reduceEqDiff, Nat.reduceLeDiff, true_and, List.length_map, hen, at_row gu, at_row gv, hneq]
        refine hK11 _ ?_; try clear hK11 K11
        conv => enter [4]; simp only [setL_cons, setL_nil, List.set_cons_zero, List.set_cons_succ]
        refine AW.cond rfl (fun hc24 => ?_) (fun hc24 => ?_)
        · skip
          refine AW.regl false [4] (by rfl) fun K12 hK12 => ?_ -- region 7
          simp only [go_sem, Nat.reduceAdd, Nat.reduceEqDiff, Nat.reduceLeDiff, true_and, List.length_map, hen]
          refine hK12 _ _ ?_; try clear hK12 K12
          conv => enter [4]; simp only [setL_cons, setL_nil, List.set_cons_zero, List.set_cons_succ]
          refine AW.ret ⟨.inr rfl, _, rfl, by simp, ?_⟩ -- return 2
          refine frzB ?_
          exact (decide_eq_false (eq_at hi1 hi2 (by rw [← hu, ← hv]; exact not_dec hc24))).symm
        · skip
          refine AW.skip ?_
          refine hK9 _ _ ?_; try clear hK9 K9
          refine AW.lastl false [13] (by rfl) fun K hK => ?_ -- region 8
          simp only [go_sem, Nat.reduceAdd, Nat.reduceEqDiff, Nat.reduceLeDiff, true_and, List.length_map, hen]
          refine hK _ _ fun env' hw => ?_
          simp only [setL_cons, setL_nil, List.set_cons_zero, List.set_cons_succ] at hw
          refine ⟨i + 1, by omega, ⟨by omega, eq_step hi1 hi2 hit (by rw [← hu, ← hv]; exact dec_of hc24)⟩, ?_, rfl⟩
          refine hw.trans ?_
          simp [Wk, wrap_succ hi1 hl]
      · skip
        have hi1 : ¬ i < l.length := by simpa using hc14
        have hZ := eq_end hi1 hl0 hit
        refine AW.exit ?_
        refine hK5 _ _ ?_; try clear hK5 K5
        refine AW.regl false [4] (by rfl) fun K13 hK13 => ?_ -- region 9
        simp only [go_sem, Nat.reduceAdd, Nat.reduceEqDiff, Nat.reduceLeDiff, true_and, List.length_map, hen]
        refine hK13 _ _ ?_; try clear hK13 K13
        conv => enter [4]; simp only [setL_cons, setL_nil, List.set_cons_zero, List.set_cons_succ]
        refine AW.ret ⟨.inr rfl, _, rfl, by simp, ?_⟩ -- return 3
        refine frzB ?_
        exact (decide_eq_true hZ).symm

set_option maxRecDepth 100000 in
theorem equal88 {α κ : Type} [DecidableEq κ] (en : α → AV) (key : α → κ) (hen : ∀ a, aGet prog 30 (en a).cells = some (en a)) (hneq : ∀ a b, aBin prog .neq 30 (en a) (en b) = some (.val (.bool !decide (key a = key b)))) (nl nl' : Bool) (l l' : List α) (hl : l.length ≤ maxLen) : APure prog Γ 88 [rowAV 4 nl (l.map en), rowAV 4 nl' (l'.map en)] (.val (.bool (decide (l.map key = l'.map key)))) := by
  refine APure.of func88 rfl fun σ => ?_
  simp only [ntmps88, List.length_cons, List.length_nil, Nat.reduceAdd, Nat.reduceSub, List.replicate_succ, List.replicate_zero, List.cons_append, List.nil_append]
  refine AW.regl false [4] (by rfl) fun K1 hK1 => ?_ -- region 0
  simp only [go_sem, Nat.reduceAdd, Nat.reduceEqDiff, Nat.reduceLeDiff, true_and, List.length_map, hen]
  refine hK1 _ _ ?_; try clear hK1 K1
  conv => enter [4]; simp only [setL_cons, setL_nil, List.set_cons_zero, List.set_cons_succ]
  refine AW.seq_k fun K2 hK2 => ?_
  refine AW.regl false [10] (by rfl) fun K3 hK3 => ?_ -- region 1
  simp only [go_sem, Nat.reduceAdd, Nat.reduceEqDiff, Nat.reduceLeDiff, true_and, List.length_map, hen]
  refine hK3 _ _ ?_; try clear hK3 K3
  conv => enter [4]; simp only [setL_cons, setL_nil, List.set_cons_zero, List.set_cons_succ]
  refine AW.cond rfl (fun hc10 => ?_) (fun hc10 => ?_)
  · skip
    refine AW.regl false [4] (by rfl) fun K4 hK4 => ?_ -- region 2
    simp only [go_sem, Nat.reduceAdd, Nat.reduceEqDiff, Nat.reduceLeDiff, true_and, List.length_map, hen]
    refine hK4 _ _ ?_; try clear hK4 K4
    conv => enter [4]; simp only [setL_cons, setL_nil, List.set_cons_zero, List.set_cons_succ]
    refine AW.ret ⟨.inr rfl, _, rfl, by simp, ?_⟩ -- return 1
    refine frzB ?_
    refine (decide_eq_false fun e => ?_).symm
    have := map_len e
    simp [this] at hc10
  · skip
    have hl0 : l.length = l'.length := by
      have : (l.length : Int) = l'.length := by simpa using hc10
      omega
    refine AW.skip ?_
    refine hK2 _ _ ?_; try clear hK2 K2
    refine AW.seq_k fun K5 hK5 => ?_
    refine AW.regl false [12, 13] (by rfl) fun K6 hK6 => ?_ -- region 3
    simp only [go_sem, Nat.reduceAdd, Nat.reduceEqDiff, Nat.reduceLeDiff, true_and, List.length_map, hen]
    refine hK6 _ _ ?_; try clear hK6 K6
    conv => enter [4]; simp only [setL_cons, setL_nil, List.set_cons_zero, List.set_cons_succ]
    refine AW.block ?_
    refine AW.loop_wk (α := Nat) (fun i => [(rowAV 4 nl (l.map en)), (rowAV 4 nl' (l'.map en)), .any, .any, .any, .any, .any, .any, .any, .any, .any, .any, (.val (.int .i64 (l.length : Nat))), (.val (.int .i64 (i : Nat))), .any, .any, .any, .any, .any, .any, .any, .any, .any, .any, .any, .any]) (fun i => σ) (fun i => l.length - i) (fun i => i ≤ l.length ∧ (l.take i).map key = (l'.take i).map key) 0 ?_ ?_
    · exact ⟨⟨Nat.zero_le _, rfl⟩, by simp [Wk], rfl⟩
    · rintro i ⟨hi, hit⟩
      refine AW.regl false [14] (by rfl) fun K7 hK7 => ?_ -- region 4
      simp only [go_sem, Nat.reduceAdd, Nat.reduceEqDiff, Nat.reduceLeDiff, true_and, List.length_map, hen]
      refine hK7 _ _ ?_; try clear hK7 K7
      conv => enter [4]; simp only [setL_cons, setL_nil, List.set_cons_zero, List.set_cons_succ]
      refine AW.seq_k fun K8 hK8 => ?_
      refine AW.cond rfl (fun hc14 => ?_) (fun hc14 => ?_)
      · skip
        have hi1 : i < l.length := by simpa using hc14
        have hi2 : i < l'.length := by rw [← hl0]; exact hi1
        obtain ⟨u, hu⟩ : ∃ z, z = l[i] := ⟨_, rfl⟩
        obtain ⟨v, hv⟩ : ∃ z, z = l'[i] := ⟨_, rfl⟩
        have gu : (l.map en)[i]? = some (en u) := by rw [hu]; simp [hi1]
        have gv : (l'.map en)[i]? = some (en v) := by rw [hv]; simp [hi2]
        refine AW.skip ?_
        refine hK8 _ _ ?_; try clear hK8 K8
        refine AW.seq_k fun K9 hK9 => ?_
        refine AW.block ?_
        refine AW.regl false [5] (by rfl) fun K10 hK10 => ?_ -- region 5
        simp only [go_sem, Nat.reduceAdd, Nat.reduceEqDiff, Nat.reduceLeDiff, true_and, List.length_map, hen]
        refine hK10 _ _ ?_; try clear hK10 K10
        conv => enter [4]; simp only [setL_cons, setL_nil, List.set_cons_zero, List.set_cons_succ]
        refine AW.regdl mixed false [24] (by kernel_rfl) (by rfl) fun K11 hK11 => ?_ -- region 6
        simp only [go_sem, Nat.reduceAdd, Nat.reduceEqDiff, Nat.reduceLeDiff, true_and, List.length_map, hen, at_row gu, at_row gv, hneq]
        refine hK11 _ ?_; try clear hK11 K11
        conv => enter [4]; simp only [setL_cons, setL_nil, List.set_cons_zero, List.set_cons_succ]
        refine AW.cond rfl (fun hc24 => ?_) (fun hc24 => ?_)
        · skip
          refine AW.regl false [4] (by rfl) fun K12 hK12 => ?_ -- region 7
          simp only [go_sem, Nat.reduceAdd, Nat.reduceEqDiff, Nat.reduceLeDiff, true_and, List.length_map, hen]
          refine hK12 _ _ ?_; try clear hK12 K12
          conv => enter [4]; simp only [setL_cons, setL_nil, List.set_cons_zero, List.set_cons_succ]
          refine AW.ret ⟨.inr rfl, _, rfl, by simp, ?_⟩ -- return 2
          refine frzB ?_
          exact (decide_eq_false (eq_at hi1 hi2 (by rw [← hu, ← hv]; exact not_dec hc24))).symm
        · skip
          refine AW.skip ?_
          refine hK9 _ _ ?_; try clear hK9 K9
          refine AW.lastl false [13] (by rfl) fun K hK => ?_ -- region 8
          simp only [go_sem, Nat.reduceAdd, Nat.reduceEqDiff, Nat.reduceLeDiff, true_and, List.length_map, hen]
          refine hK _ _ fun env' hw => ?_
          simp only [setL_cons, setL_nil, List.set_cons_zero, List.set_cons_succ] at hw
          refine ⟨i + 1, by omega, ⟨by omega, eq_step hi1 hi2 hit (by rw [← hu, ← hv]; exact dec_of hc24)⟩, ?_, rfl⟩
          refine hw.trans ?_
          simp [Wk, wrap_succ hi1 hl]
      · skip
        have hi1 : ¬ i < l.length := by simpa using hc14
        have hZ := eq_end hi1 hl0 hit
        refine AW.exit ?_
        refine hK5 _ _ ?_; try clear hK5 K5
        refine AW.regl false [4] (by rfl) fun K13 hK13 => ?_ -- region 9
        simp only [go_sem, Nat.reduceAdd, Nat.reduceEqDiff, Nat.reduceLeDiff, true_and, List.length_map, hen]
        refine hK13 _ _ ?_; try clear hK13 K13
        conv => enter [4]; simp only [setL_cons, setL_nil, List.set_cons_zero, List.set_cons_succ]
        refine AW.ret ⟨.inr rfl, _, rfl, by simp, ?_⟩ -- return 3
        refine frzB ?_
        exact (decide_eq_true hZ).symm

set_option maxRecDepth 100000 in
theorem equalFunc58 {α κ : Type} [DecidableEq κ] (en : α → AV) (key : α → κ) (hen : ∀ a, aGet prog 34 (en a).cells = some (en a)) (hal : ∀ a, (en a).cells.all AV.one = true) (hle : ∀ a, (en a).cells.length = 4) (hbel : ∀ a n, (en a).bel n = true) (nl nl' : Bool) (l l' : List α) (hl : l.length ≤ maxLen) (g : FuncId) (hg : Enters prog g) (hp : ∀ a ∈ l, ∀ b ∈ l', APure prog Γ g [en a, en b] (.val (.bool (decide (key a = key b))))) : APure prog Γ 58 [rowAV 4 nl (l.map en), rowAV 4 nl' (l'.map en), .fn g []] (.val (.bool (decide (l.map key = l'.map key)))) := by
  refine APure.of func58 rfl fun σ => ?_
  simp only [ntmps58, List.length_cons, List.length_nil, Nat.reduceAdd, Nat.reduceSub, List.replicate_succ, List.replicate_zero, List.cons_append, List.nil_append]
  refine AW.regl false [6] (by rfl) fun K1 hK1 => ?_ -- region 0
  simp only [go_sem, Nat.reduceAdd, Nat.reduceEqDiff, Nat.reduceLeDiff, true_and, List.length_map, hen, hal, hle]
  refine hK1 _ _ ?_; try clear hK1 K1
  conv => enter [4]; simp only [setL_cons, setL_nil, List.set_cons_zero, List.set_cons_succ]
  refine AW.seq_k fun K2 hK2 => ?_
  refine AW.regl false [14] (by rfl) fun K3 hK3 => ?_ -- region 1
  simp only [go_sem, Nat.reduceAdd, Nat.reduceEqDiff, Nat.reduceLeDiff, true_and, List.length_map, hen, hal, hle]
  refine hK3 _ _ ?_; try clear hK3 K3
  conv => enter [4]; simp only [setL_cons, setL_nil, List.set_cons_zero, List.set_cons_succ]
  refine AW.cond rfl (fun hc14 => ?_) (fun hc14 => ?_)
  · skip
    refine AW.regl false [6] (by rfl) fun K4 hK4 => ?_ -- region 2
    simp only [go_sem, Nat.reduceAdd, Nat.reduceEqDiff, Nat.reduceLeDiff, true_and, List.length_map, hen, hal, hle]
    refine hK4 _ _ ?_; try clear hK4 K4
    conv => enter [4]; simp only [setL_cons, setL_nil, List.set_cons_zero, List.set_cons_succ]
    refine AW.ret ⟨.inr rfl, _, rfl, by simp, ?_⟩ -- return 1
    refine frzB ?_
    refine (decide_eq_false fun e => ?_).symm
    have := map_len e
    simp [this] at hc14
  · skip
    have hl0 : l.length = l'.length := by
      have : (l.length : Int) = l'.length := by simpa using hc14
      omega
    refine AW.skip ?_
    refine hK2 _ _ ?_; try clear hK2 K2
    refine AW.seq_k fun K5 hK5 => ?_
    refine AW.regl false [15, 16, 17] (by rfl) fun K6 hK6 => ?_ -- region 3
    simp only [go_sem, Nat.reduceAdd, Nat.reduceEqDiff, Nat.reduceLeDiff, true_and, List.length_map, hen, hal, hle]
    refine hK6 _ _ ?_; try clear hK6 K6
    conv => enter [4]; simp only [setL_cons, setL_nil, List.set_cons_zero, List.set_cons_succ]
    refine AW.block ?_
    refine AW.loop_dr (α := Nat) (fun i => [(rowAV 4 nl (l.map en)), (rowAV 4 nl' (l'.map en)), (.fn g []), .any, .any, .any, .any, .any, .any, .any, .any, .any, .any, .any, .any, (rowAV 4 nl (l.map en)), (.val (.int .i64 (l.length : Nat))), (.val (.int .i64 (i : Nat))), .any, .any, .any, .any, .any, .any, .any, .any, .any, .any, .any, .any, .any, .any]) (fun i => σ) (fun i => l.length - i) (fun i => i ≤ l.length ∧ (l.take i).map key = (l'.take i).map key) 0 ?_ ?_ ?_
    · exact ⟨⟨Nat.zero_le _, rfl⟩, by simp [Wk], rfl⟩
    · exact fun y _ => ⟨by simp [belL, AV.bel, row_bel hbel], bel_one⟩
    · rintro i ⟨hi, hit⟩
      refine AW.regl false [18] (by rfl) fun K7 hK7 => ?_ -- region 4
      simp only [go_sem, Nat.reduceAdd, Nat.reduceEqDiff, Nat.reduceLeDiff, true_and, List.length_map, hen, hal, hle]
      refine hK7 _ _ ?_; try clear hK7 K7
      conv => enter [4]; simp only [setL_cons, setL_nil, List.set_cons_zero, List.set_cons_succ]
      refine AW.seq_k fun K8 hK8 => ?_
      refine AW.cond rfl (fun hc18 => ?_) (fun hc18 => ?_)
      · skip
        have hi1 : i < l.length := by simpa using hc18
        have hi2 : i < l'.length := by rw [← hl0]; exact hi1
        obtain ⟨u, hu⟩ : ∃ z, z = l[i] := ⟨_, rfl⟩
        obtain ⟨v, hv⟩ : ∃ z, z = l'[i] := ⟨_, rfl⟩
        have gu : (l.map en)[i]? = some (en u) := by rw [hu]; simp [hi1]
        have gv : (l'.map en)[i]? = some (en v) := by rw [hv]; simp [hi2]
        refine AW.skip ?_
        refine hK8 _ _ ?_; try clear hK8 K8
        refine AW.seq_k fun K9 hK9 => ?_
        refine AW.block ?_
        refine AW.regl false [8, 7] (by rfl) fun K10 hK10 => ?_ -- region 5
        simp only [go_sem, Nat.reduceAdd, Nat.reduceEqDiff, Nat.reduceLeDiff, true_and, List.length_map, hen, hal, hle, at_row gu]
        refine hK10 _ _ ?_; try clear hK10 K10
        conv => enter [4]; simp only [setL_cons, setL_nil, List.set_cons_zero, List.set_cons_succ, upd_none, upd_at]
        refine AW.regl false [9] (by rfl) fun K11 hK11 => ?_ -- region 6
        simp only [go_sem, Nat.reduceAdd, Nat.reduceEqDiff, Nat.reduceLeDiff, true_and, List.length_map, hen, hal, hle, at_row gv]
        refine hK11 _ _ ?_; try clear hK11 K11
        conv => enter [4]; simp only [setL_cons, setL_nil, List.set_cons_zero, List.set_cons_succ, upd_none, upd_at]
        refine AW.regl false [30] (by rfl) fun K12 hK12 => ?_ -- region 7
        simp only [go_sem, Nat.reduceAdd, Nat.reduceEqDiff, Nat.reduceLeDiff, true_and, List.length_map, hen, hal, hle]
        refine sC.of hg (hp u (by rw [hu]; exact List.getElem_mem hi1) v (by rw [hv]; exact List.getElem_mem hi2) |>.on _).here (by rfl) ?_
        simp only [go_sem, Nat.reduceAdd, Nat.reduceEqDiff, Nat.reduceLeDiff, true_and, List.length_map, hen, hal, hle]
        refine hK12 _ _ ?_; try clear hK12 K12
        conv => enter [4]; simp only [setL_cons, setL_nil, List.set_cons_zero, List.set_cons_succ]
        refine AW.cond rfl (fun hc30 => ?_) (fun hc30 => ?_)
        · skip
          refine AW.regl false [6] (by rfl) fun K13 hK13 => ?_ -- region 8
          simp only [go_sem, Nat.reduceAdd, Nat.reduceEqDiff, Nat.reduceLeDiff, true_and, List.length_map, hen, hal, hle]
          refine hK13 _ _ ?_; try clear hK13 K13
          conv => enter [4]; simp only [setL_cons, setL_nil, List.set_cons_zero, List.set_cons_succ]
          refine AW.ret ⟨.inr rfl, _, rfl, by simp, ?_⟩ -- return 2
          refine frzB ?_
          exact (decide_eq_false (eq_at hi1 hi2 (by rw [← hu, ← hv]; exact not_dec hc30))).symm
        · skip
          refine AW.skip ?_
          refine hK9 _ _ ?_; try clear hK9 K9
          refine AW.lastl false [17] (by rfl) fun K hK => ?_ -- region 9
          simp only [go_sem, Nat.reduceAdd, Nat.reduceEqDiff, Nat.reduceLeDiff, true_and, List.length_map, hen, hal, hle]
          refine hK _ _ fun env' hw => ?_
          simp only [setL_cons, setL_nil, List.set_cons_zero, List.set_cons_succ] at hw
          refine ⟨i + 1, by omega, ⟨by omega, eq_step hi1 hi2 hit (by rw [← hu, ← hv]; exact dec_of hc30)⟩, ?_, by simp [List.take_append, List.take_of_length_le]⟩
          refine hw.trans ?_
          simp [Wk, wrap_succ hi1 hl]
      · skip
        have hi1 : ¬ i < l.length := by simpa using hc18
        have hZ := eq_end hi1 hl0 hit
        refine AW.exit ?_
        refine hK5 _ _ ?_; try clear hK5 K5
        refine AW.regl false [6] (by rfl) fun K14 hK14 => ?_ -- region 10
        simp only [go_sem, Nat.reduceAdd, Nat.reduceEqDiff, Nat.reduceLeDiff, true_and, List.length_map, hen, hal, hle]
        refine hK14 _ _ ?_; try clear hK14 K14
        conv => enter [4]; simp only [setL_cons, setL_nil, List.set_cons_zero, List.set_cons_succ]
        refine AW.ret ⟨.inr rfl, _, rfl, by simp, ?_⟩ -- return 3
        refine frzB ?_
        exact (decide_eq_true hZ).symm

set_option maxRecDepth 100000 in
theorem equalFunc89 {α κ : Type} [DecidableEq κ] (en : α → AV) (key : α → κ) (hen : ∀ a, aGet prog 72 (en a).cells = some (en a)) (hal : ∀ a, (en a).cells.all AV.one = true) (hle : ∀ a, (en a).cells.length = 7) (hbel : ∀ a n, (en a).bel n = true) (nl nl' : Bool) (l l' : List α) (hl : l.length ≤ maxLen) (g : FuncId) (hg : Enters prog g) (hp : ∀ a ∈ l, ∀ b ∈ l', APure prog Γ g [en a, en b] (.val (.bool (decide (key a = key b))))) : APure prog Γ 89 [rowAV 7 nl (l.map en), rowAV 7 nl' (l'.map en), .fn g []] (.val (.bool (decide (l.map key = l'.map key)))) := by
  refine APure.of func89 rfl fun σ => ?_
  simp only [ntmps89, List.length_cons, List.length_nil, Nat.reduceAdd, Nat.reduceSub, List.replicate_succ, List.replicate_zero, List.cons_append, List.nil_append]
  refine AW.regl false [6] (by rfl) fun K1 hK1 => ?_ -- region 0
  simp only [go_sem, Nat.reduceAdd, Nat.reduceEqDiff, Nat.reduceLeDiff, true_and, List.length_map, hen, hal, hle]
  refine hK1 _ _ ?_; try clear hK1 K1
  conv => enter [4]; simp only [setL_cons, setL_nil, List.set_cons_zero, List.set_cons_succ]
  refine AW.seq_k fun K2 hK2 => ?_
  refine AW.regl false [14] (by rfl) fun K3 hK3 => ?_ -- region 1
  simp only [go_sem, Nat.reduceAdd, Nat.reduceEqDiff, Nat.reduceLeDiff, true_and, List.length_map, hen, hal, hle]
  refine hK3 _ _ ?_; try clear hK3 K3
  conv => enter [4]; simp only [setL_cons, setL_nil, List.set_cons_zero, List.set_cons_succ]
  refine AW.cond rfl (fun hc14 => ?_) (fun hc14 => ?_)
  · skip
    refine AW.regl false [6] (by rfl) fun K4 hK4 => ?_ -- region 2
    simp only [go_sem, Nat.reduceAdd, Nat.reduceEqDiff, Nat.reduceLeDiff, true_and, List.length_map, hen, hal, hle]
    refine hK4 _ _ ?_; try clear hK4 K4
    conv => enter [4]; simp only [setL_cons, setL_nil, List.set_cons_zero, List.set_cons_succ]
    refine AW.ret ⟨.inr rfl, _, rfl, by simp, ?_⟩ -- return 1
    refine frzB ?_
    refine (decide_eq_false fun e => ?_).symm
    have := map_len e
    simp [this] at hc14
  · skip
    have hl0 : l.length = l'.length := by
      have : (l.length : Int) = l'.length := by simpa using hc14
      omega
    refine AW.skip ?_
    refine hK2 _ _ ?_; try clear hK2 K2
    refine AW.seq_k fun K5 hK5 => ?_
    refine AW.regl false [15, 16, 17] (by rfl) fun K6 hK6 => ?_ -- region 3
    simp only [go_sem, Nat.reduceAdd, Nat.reduceEqDiff, Nat.reduceLeDiff, true_and, List.length_map, hen, hal, hle]
    refine hK6 _ _ ?_; try clear hK6 K6
    conv => enter [4]; simp only [setL_cons, setL_nil, List.set_cons_zero, List.set_cons_succ]
    refine AW.block ?_
    refine AW.loop_dr (α := Nat) (fun i => [(rowAV 7 nl (l.map en)), (rowAV 7 nl' (l'.map en)), (.fn g []), .any, .any, .any, .any, .any, .any, .any, .any, .any, .any, .any, .any, (rowAV 7 nl (l.map en)), (.val (.int .i64 (l.length : Nat))), (.val (.int .i64 (i : Nat))), .any, .any, .any, .any, .any, .any, .any, .any, .any, .any, .any, .any, .any, .any]) (fun i => σ) (fun i => l.length - i) (fun i => i ≤ l.length ∧ (l.take i).map key = (l'.take i).map key) 0 ?_ ?_ ?_
    · exact ⟨⟨Nat.zero_le _, rfl⟩, by simp [Wk], rfl⟩
    · exact fun y _ => ⟨by simp [belL, AV.bel, row_bel hbel], bel_one⟩
    · rintro i ⟨hi, hit⟩
      refine AW.regl false [18] (by rfl) fun K7 hK7 => ?_ -- region 4
      simp only [go_sem, Nat.reduceAdd, Nat.reduceEqDiff, Nat.reduceLeDiff, true_and, List.length_map, hen, hal, hle]
      refine hK7 _ _ ?_; try clear hK7 K7
      conv => enter [4]; simp only [setL_cons, setL_nil, List.set_cons_zero, List.set_cons_succ]
      refine AW.seq_k fun K8 hK8 => ?_
      refine AW.cond rfl (fun hc18 => ?_) (fun hc18 => ?_)
      · skip
        have hi1 : i < l.length := by simpa using hc18
        have hi2 : i < l'.length := by rw [← hl0]; exact hi1
        obtain ⟨u, hu⟩ : ∃ z, z = l[i] := ⟨_, rfl⟩
        obtain ⟨v, hv⟩ : ∃ z, z = l'[i] := ⟨_, rfl⟩
        have gu : (l.map en)[i]? = some (en u) := by rw [hu]; simp [hi1]
        have gv : (l'.map en)[i]? = some (en v) := by rw [hv]; simp [hi2]
        refine AW.skip ?_
        refine hK8 _ _ ?_; try clear hK8 K8
        refine AW.seq_k fun K9 hK9 => ?_
        refine AW.block ?_
        refine AW.regl false [8, 7] (by rfl) fun K10 hK10 => ?_ -- region 5
        simp only [go_sem, Nat.reduceAdd, Nat.reduceEqDiff, Nat.reduceLeDiff, true_and, List.length_map, hen, hal, hle, at_row gu]
        refine hK10 _ _ ?_; try clear hK10 K10
        conv => enter [4]; simp only [setL_cons, setL_nil, List.set_cons_zero, List.set_cons_succ, upd_none, upd_at]
        refine AW.regl false [9] (by rfl) fun K11 hK11 => ?_ -- region 6
        simp only [go_sem, Nat.reduceAdd, Nat.reduceEqDiff, Nat.reduceLeDiff, true_and, List.length_map, hen, hal, hle, at_row gv]
        refine hK11 _ _ ?_; try clear hK11 K11
        conv => enter [4]; simp only [setL_cons, setL_nil, List.set_cons_zero, List.set_cons_succ, upd_none, upd_at]
        refine AW.regl false [30] (by rfl) fun K12 hK12 => ?_ -- region 7
        simp only [go_sem, Nat.reduceAdd, Nat.reduceEqDiff, Nat.reduceLeDiff, true_and, List.length_map, hen, hal, hle]
        refine sC.of hg (hp u (by rw [hu]; exact List.getElem_mem hi1) v (by rw [hv]; exact List.getElem_mem hi2) |>.on _).here (by rfl) ?_
        simp only [go_sem, Nat.reduceAdd, Nat.reduceEqDiff, Nat.reduceLeDiff, true_and, List.length_map, hen, hal, hle]
        refine hK12 _ _ ?_; try clear hK12 K12
        conv => enter [4]; simp only [setL_cons, setL_nil, List.set_cons_zero, List.set_cons_succ]
        refine AW.cond rfl (fun hc30 => ?_) (fun hc30 => ?_)
        · skip
          refine AW.regl false [6] (by rfl) fun K13 hK13 => ?_ -- region 8
          simp only [go_sem, Nat.reduceAdd, Nat.reduceEqDiff, Nat.reduceLeDiff, true_and, List.length_map, hen, hal, hle]
          refine hK13 _ _ ?_; try clear hK13 K13
          conv => enter [4]; simp only [setL_cons, setL_nil, List.set_cons_zero, List.set_cons_succ]
          refine AW.ret ⟨.inr rfl, _, rfl, by simp, ?_⟩ -- return 2
          refine frzB ?_
          exact (decide_eq_false (eq_at hi1 hi2 (by rw [← hu, ← hv]; exact not_dec hc30))).symm
        · skip
          refine AW.skip ?_
          refine hK9 _ _ ?_; try clear hK9 K9
          refine AW.lastl false [17] (by rfl) fun K hK => ?_ -- region 9
          simp only [go_sem, Nat.reduceAdd, Nat.reduceEqDiff, Nat.reduceLeDiff, true_and, List.length_map, hen, hal, hle]
          refine hK _ _ fun env' hw => ?_
          simp only [setL_cons, setL_nil, List.set_cons_zero, List.set_cons_succ] at hw
          refine ⟨i + 1, by omega, ⟨by omega, eq_step hi1 hi2 hit (by rw [← hu, ← hv]; exact dec_of hc30)⟩, ?_, by simp [List.take_append, List.take_of_length_le]⟩
          refine hw.trans ?_
          simp [Wk, wrap_succ hi1 hl]
      · skip
        have hi1 : ¬ i < l.length := by simpa using hc18
        have hZ := eq_end hi1 hl0 hit
        refine AW.exit ?_
        refine hK5 _ _ ?_; try clear hK5 K5
        refine AW.regl false [6] (by rfl) fun K14 hK14 => ?_ -- region 10
        simp only [go_sem, Nat.reduceAdd, Nat.reduceEqDiff, Nat.reduceLeDiff, true_and, List.length_map, hen, hal, hle]
        refine hK14 _ _ ?_; try clear hK14 K14
        conv => enter [4]; simp only [setL_cons, setL_nil, List.set_cons_zero, List.set_cons_succ]
        refine AW.ret ⟨.inr rfl, _, rfl, by simp, ?_⟩ -- return 3
        refine frzB ?_
        exact (decide_eq_true hZ).symm

set_option maxRecDepth 100000 in
theorem bsame_calls (b o : Blk) (hb : b.ok) : APure prog Γ 90 [b.enc, o.enc] (.val (.bool (decide (b.key = o.key)))) := by
  refine APure.of func90 rfl fun σ => ?_
  simp only [ntmps90, List.length_cons, List.length_nil, Nat.reduceAdd, Nat.reduceSub, List.replicate_succ, List.replicate_zero, List.cons_append, List.nil_append]
  refine AW.regl false [2, 3, 4] (by rfl) fun K1 hK1 => ?_ -- region 0
  simp only [go_sem, Nat.reduceAdd, Nat.reduceEqDiff, Nat.reduceLeDiff, true_and, blk_all, Blk.enc]
  refine hK1 _ _ ?_; try clear hK1 K1
  conv => enter [4]; simp only [setL_cons, setL_nil, List.set_cons_zero, List.set_cons_succ]
  refine AW.regtf false 4 (.val (.bool ((((((b.kind == o.kind && b.op == o.op) && b.sub == o.sub) && b.n == o.n) && b.x == o.x) && b.y == o.y) && decide (b.src.map Src.key = o.src.map Src.key)))) (by rfl) ?_ ?_ -- region 1
  · skip
    cases h9 : (b.kind == o.kind)
    · skip
      simp only [go_sem, Nat.reduceAdd, Nat.reduceEqDiff, Nat.reduceLeDiff, true_and, blk_all, Blk.enc, h9]
      try simp [upd_at, h9, blk_all, Blk.enc]
    · skip
      cases h15 : (b.op == o.op)
      · skip
        simp only [go_sem, Nat.reduceAdd, Nat.reduceEqDiff, Nat.reduceLeDiff, true_and, blk_all, Blk.enc, h9, h15]
        try simp [upd_at, h9, h15, blk_all, Blk.enc]
      · skip
        cases h22 : (b.sub == o.sub)
        · skip
          simp only [go_sem, Nat.reduceAdd, Nat.reduceEqDiff, Nat.reduceLeDiff, true_and, blk_all, Blk.enc, h9, h15, h22]
          try simp [upd_at, h9, h15, h22, blk_all, Blk.enc]
        · skip
          cases h29 : (b.n == o.n)
          · skip
            simp only [go_sem, Nat.reduceAdd, Nat.reduceEqDiff, Nat.reduceLeDiff, true_and, blk_all, Blk.enc, h9, h15, h22, h29]
            try simp [upd_at, h9, h15, h22, h29, blk_all, Blk.enc]
          · skip
            cases h36 : (b.x == o.x)
            · skip
              simp only [go_sem, Nat.reduceAdd, Nat.reduceEqDiff, Nat.reduceLeDiff, true_and, blk_all, Blk.enc, h9, h15, h22, h29, h36]
              try simp [upd_at, h9, h15, h22, h29, h36, blk_all, Blk.enc]
            · skip
              cases h43 : (b.y == o.y)
              · skip
                simp only [go_sem, Nat.reduceAdd, Nat.reduceEqDiff, Nat.reduceLeDiff, true_and, blk_all, Blk.enc, h9, h15, h22, h29, h36, h43]
                try simp [upd_at, h9, h15, h22, h29, h36, h43, blk_all, Blk.enc]
              · skip
                simp only [go_sem, Nat.reduceAdd, Nat.reduceEqDiff, Nat.reduceLeDiff, true_and, blk_all, Blk.enc, h9, h15, h22, h29, h36, h43]
                refine sC.of en106 ((equal106 Src.enc Src.key src_get (neq_src (.inl rfl)) b.nl o.nl b.src o.src hb).on _).here (by rfl) ?_
                simp only [go_sem, Nat.reduceAdd, Nat.reduceEqDiff, Nat.reduceLeDiff, true_and, blk_all, Blk.enc, h9, h15, h22, h29, h36, h43]
                try simp [upd_at, h9, h15, h22, h29, h36, h43, blk_all, Blk.enc]
  conv => enter [4]; simp only [List.set_cons_zero, List.set_cons_succ]
  refine AW.ret ⟨.inr rfl, _, rfl, by simp, ?_⟩ -- return 1
  refine frzB ?_
  rw [Bool.eq_iff_iff]
  simp [blk_key, and_assoc]

set_option maxRecDepth 100000 in
theorem dsame_calls (d o : Dgm) (hd : d.ok) : APure prog Γ 59 [d.enc, o.enc] (.val (.bool (decide (d.key = o.key)))) := by
  refine APure.of func59 rfl fun σ => ?_
  simp only [ntmps59, List.length_cons, List.length_nil, Nat.reduceAdd, Nat.reduceSub, List.replicate_succ, List.replicate_zero, List.cons_append, List.nil_append]
  refine AW.regl false [2, 3, 4] (by rfl) fun K1 hK1 => ?_ -- region 0
  simp only [go_sem, Nat.reduceAdd, Nat.reduceEqDiff, Nat.reduceLeDiff, true_and, dgm_all, Dgm.enc, ba_beqL]
  refine hK1 _ _ ?_; try clear hK1 K1
  conv => enter [4]; simp only [setL_cons, setL_nil, List.set_cons_zero, List.set_cons_succ]
  refine AW.regtf false 4 (.val (.bool (((decide (d.name = o.name) && decide (d.ins.map PortM.key = o.ins.map PortM.key)) && decide (d.outs.map OutM.key = o.outs.map OutM.key)) && decide (d.blocks.map Blk.key = o.blocks.map Blk.key)))) (by rfl) ?_ ?_ -- region 1
  · skip
    cases h9 : (decide (d.name = o.name))
    · skip
      simp only [go_sem, Nat.reduceAdd, Nat.reduceEqDiff, Nat.reduceLeDiff, true_and, dgm_all, Dgm.enc, ba_beqL, h9]
      try simp [upd_at, h9, dgm_all, Dgm.enc, ba_beqL]
    · skip
      cases h15 : (decide (d.ins.map PortM.key = o.ins.map PortM.key))
      · skip
        simp only [go_sem, Nat.reduceAdd, Nat.reduceEqDiff, Nat.reduceLeDiff, true_and, dgm_all, Dgm.enc, ba_beqL, h9, h15]
        refine sC.of en87 ((equal87 PortM.enc PortM.key port_get (neq_port (.inl rfl)) d.nlI o.nlI d.ins o.ins hd.2.1.1).on _).here (by rfl) ?_
        simp only [go_sem, Nat.reduceAdd, Nat.reduceEqDiff, Nat.reduceLeDiff, true_and, dgm_all, Dgm.enc, ba_beqL, h9, h15]
        try simp [upd_at, h9, h15, dgm_all, Dgm.enc, ba_beqL]
      · skip
        cases h22 : (decide (d.outs.map OutM.key = o.outs.map OutM.key))
        · skip
          simp only [go_sem, Nat.reduceAdd, Nat.reduceEqDiff, Nat.reduceLeDiff, true_and, dgm_all, Dgm.enc, ba_beqL, h9, h15, h22]
          refine sC.of en87 ((equal87 PortM.enc PortM.key port_get (neq_port (.inl rfl)) d.nlI o.nlI d.ins o.ins hd.2.1.1).on _).here (by rfl) ?_
          simp only [go_sem, Nat.reduceAdd, Nat.reduceEqDiff, Nat.reduceLeDiff, true_and, dgm_all, Dgm.enc, ba_beqL, h9, h15, h22]
          refine sC.of en88 ((equal88 OutM.enc OutM.key out_get (neq_out (.inl rfl)) d.nlO o.nlO d.outs o.outs hd.2.2.1.1).on _).here (by rfl) ?_
          simp only [go_sem, Nat.reduceAdd, Nat.reduceEqDiff, Nat.reduceLeDiff, true_and, dgm_all, Dgm.enc, ba_beqL, h9, h15, h22]
          try simp [upd_at, h9, h15, h22, dgm_all, Dgm.enc, ba_beqL]
        · skip
          simp only [go_sem, Nat.reduceAdd, Nat.reduceEqDiff, Nat.reduceLeDiff, true_and, dgm_all, Dgm.enc, ba_beqL, h9, h15, h22]
          refine sC.of en87 ((equal87 PortM.enc PortM.key port_get (neq_port (.inl rfl)) d.nlI o.nlI d.ins o.ins hd.2.1.1).on _).here (by rfl) ?_
          simp only [go_sem, Nat.reduceAdd, Nat.reduceEqDiff, Nat.reduceLeDiff, true_and, dgm_all, Dgm.enc, ba_beqL, h9, h15, h22]
          refine sC.of en88 ((equal88 OutM.enc OutM.key out_get (neq_out (.inl rfl)) d.nlO o.nlO d.outs o.outs hd.2.2.1.1).on _).here (by rfl) ?_
          simp only [go_sem, Nat.reduceAdd, Nat.reduceEqDiff, Nat.reduceLeDiff, true_and, dgm_all, Dgm.enc, ba_beqL, h9, h15, h22]
          refine sC.of en89 ((equalFunc89 Blk.enc Blk.key blk_get blk_all blk_len blk_bel d.nlB o.nlB d.blocks o.blocks hd.2.2.2.1 90 en90 (fun a ha b _ => bsame_calls a b (hd.2.2.2.2 a ha))).on _).here (by rfl) ?_
          simp only [go_sem, Nat.reduceAdd, Nat.reduceEqDiff, Nat.reduceLeDiff, true_and, dgm_all, Dgm.enc, ba_beqL, h9, h15, h22]
          try simp [upd_at, h9, h15, h22, dgm_all, Dgm.enc, ba_beqL]
  conv => enter [4]; simp only [List.set_cons_zero, List.set_cons_succ]
  refine AW.ret ⟨.inr rfl, _, rfl, by simp, ?_⟩ -- return 1
  refine frzB ?_
  rw [Bool.eq_iff_iff]
  simp [dgm_key, and_assoc]

set_option maxRecDepth 100000 in
theorem same_calls (f o : FileM) (hf : f.ok) : APure prog Γ 27 [f.enc, o.enc] (.val (.bool (decide (f.key = o.key)))) := by
  refine APure.of func27 rfl fun σ => ?_
  simp only [ntmps27, List.length_cons, List.length_nil, Nat.reduceAdd, Nat.reduceSub, List.replicate_succ, List.replicate_zero, List.cons_append, List.nil_append]
  refine AW.regl false [2, 3, 4] (by rfl) fun K1 hK1 => ?_ -- region 0
  simp only [go_sem, Nat.reduceAdd, Nat.reduceEqDiff, Nat.reduceLeDiff, true_and, FileM.enc]
  refine hK1 _ _ ?_; try clear hK1 K1
  conv => enter [4]; simp only [setL_cons, setL_nil, List.set_cons_zero, List.set_cons_succ]
  refine AW.regl false [4] (by rfl) fun K2 hK2 => ?_ -- region 1
  simp only [go_sem, Nat.reduceAdd, Nat.reduceEqDiff, Nat.reduceLeDiff, true_and, FileM.enc]
  refine sC.of en58 ((equalFunc58 Dgm.enc Dgm.key dgm_get dgm_all dgm_len dgm_bel f.nl o.nl f.ds o.ds hf.1 59 en59 (fun a ha b _ => dsame_calls a b (hf.2 a ha))).on _).here (by rfl) ?_
  simp only [go_sem, Nat.reduceAdd, Nat.reduceEqDiff, Nat.reduceLeDiff, true_and, FileM.enc]
  refine hK2 _ _ ?_; try clear hK2 K2
  conv => enter [4]; simp only [setL_cons, setL_nil, List.set_cons_zero, List.set_cons_succ]
  refine AW.ret ⟨.inr rfl, _, rfl, by simp, ?_⟩ -- return 1
  exact .keep rfl
end Go.Proofs.Tryd
