import Derived.Test.YteekpkbmkibacaaDoorLAstN
import Derived.Test.YteekpkbmkibacaaDoorLEvDraw4
import Derived.Test.YteekpkbmkibacaaDoorLEvList
/-! Expressions: what the functions come to. -/
namespace Go.Proofs.Tryd
set_option linter.unusedSimpArgs false
set_option linter.unusedVariables false
open Go Go.Proofs.Ev
namespace A
variable {Γ : List (Nat × List AV)}
def single (k o n : Int) (s : ByteArray) (c : Int) : Bool :=
  if k == 0 then ((decide (n ≥ 0) && decide (s = ⟨#[]⟩)) && (o == 0)) && (c == 0)
  else if k == 1 then (((decide (n ≥ 0) && decide (n ≤ 1)) && decide (s = ⟨#[]⟩)) && (o == 0)) && (c == 0)
  else if k == 2 then ((nameM s && (n == 0)) && (o == 0)) && (c == 0)
  else if k == 3 then ((((n == 0) && decide (s = ⟨#[]⟩)) && decide (o ≥ 0)) && decide (o ≤ 2)) && (c == 1)
  else if k == 4 then ((((n == 0) && decide (s = ⟨#[]⟩)) && decide (o ≥ 0)) && decide (o ≤ 15)) && (c == 2)
  else if k == 5 then (((n == 0) && decide (s = ⟨#[]⟩)) && (o == 0)) && (c == 3)
  else if k == 6 then ((nameM s && (n == 0)) && (o == 0)) && decide (c ≤ 1000)
  else false
def E.single : E → Bool
  | .mk k o n s _ l => A.single k o n s l.length
mutual
def E.shape : E → Bool
  | .mk k o n s _ l => shapeL l && A.single k o n s l.length
def shapeL : List E → Bool
  | [] => true
  | e :: l => e.shape && shapeL l
end
theorem shapeL_all : ∀ l : List E, shapeL l = l.all E.shape
  | [] => rfl
  | e :: l => by rw [shapeL, shapeL_all l]; rfl
/-- Each name in it is short enough to be told. -/
def E.fit : E → Prop
  | .mk _ _ _ s _ _ => s.size ≤ 1000000000
def E.fits (e : E) : Prop := ∀ d ∈ e.pre, d.fit
def rtoo (k o n : Int) (s : ByteArray) : Bool := (((((decide (k > 1) && (n != 0)) || (((k != 2) && (k != 6)) && !decide (s = ⟨#[]⟩))) || (((k != 3) && (k != 4)) && (o != 0))) || decide (o < 0)) || decide (n < 0))
theorem single_too {k o n : Int} {s : ByteArray} {c : Int} (h : rtoo k o n s = true) : A.single k o n s c = false := by
  cases hS : A.single k o n s c with
  | false => rfl
  | true =>
    exfalso
    unfold A.single at hS
    unfold rtoo at h
    simp only [Bool.or_eq_true, Bool.and_eq_true, decide_eq_true_eq, bne_iff_ne, Bool.not_eq_true', decide_eq_false_iff_not, beq_iff_eq] at h
    by_cases hs : s = ⟨#[]⟩
    · have h' : (k > 1 ∧ n ≠ 0) ∨ ((k ≠ 3 ∧ k ≠ 4) ∧ o ≠ 0) ∨ o < 0 ∨ n < 0 := by simpa [hs, or_assoc] using h
      clear h
      generalize nameM s = b at hS
      repeat' split at hS
      all_goals simp only [Bool.and_eq_true, decide_eq_true_eq, beq_iff_eq, Bool.false_eq_true] at *
      all_goals omega
    · have h' : (k > 1 ∧ n ≠ 0) ∨ (k ≠ 2 ∧ k ≠ 6) ∨ ((k ≠ 3 ∧ k ≠ 4) ∧ o ≠ 0) ∨ o < 0 ∨ n < 0 := by simpa [hs, or_assoc] using h
      clear h
      simp only [hs, decide_false, Bool.and_false, Bool.false_and] at hS
      generalize nameM s = b at hS
      repeat' split at hS
      all_goals simp only [Bool.and_eq_true, decide_eq_true_eq, beq_iff_eq, Bool.false_eq_true] at *
      all_goals omega
theorem row_bel5 (n : Nat) (nl : Bool) (l : List E) : (rowAV 5 nl (l.map E.enc)).bel n = true := by
  cases l with
  | nil => cases nl <;> rfl
  | cons a l => exact belL_map E.enc (a :: l) fun e _ => enc_bel n e

set_option maxRecDepth 100000 in
theorem rdepth_step (k o n : Int) (s : ByteArray) (nl : Bool) (l : List E) (hz : 1 + sizeL l < 9223372036854775808) (ih : ∀ e ∈ l, APure prog Γ 16 [e.enc] (i64 (e.depth : Nat))) : APure prog Γ 16 [(E.mk k o n s nl l).enc] (i64 ((E.mk k o n s nl l).depth : Nat)) := by
  refine APure.of func16 rfl fun σ => ?_
  simp only [ntmps16, List.length_cons, List.length_nil, Nat.reduceAdd, Nat.reduceSub, List.replicate_succ, List.replicate_zero, List.cons_append, List.nil_append]
  have hdl : ∀ i, depthL (l.take i) ≤ sizeL l := fun i => by
    have h1 := sizeL_le (l := l) i
    have h2 : ∀ m : List E, depthL m ≤ sizeL m := fun m => by
      have := depth_size (.mk 0 0 0 ⟨#[]⟩ true m)
      simp only [E.depth, E.size] at this
      omega
    exact Nat.le_trans (h2 _) h1
  have hl : l.length ≤ maxLen := by have := length_sizeL l; rw [maxLen_eq]; omega
  rw [E.enc_mk]
  refine AW.regl false [1, 2] (by rfl) fun K1 hK1 => ?_ -- region 0
  simp only [go_sem, Nat.reduceAdd, Nat.reduceEqDiff, Nat.reduceLeDiff, true_and, List.length_map, len_row, one_row, E.enc_mk]
  refine hK1 _ _ ?_; try clear hK1 K1
  conv => enter [5]; simp only [setL_cons, setL_nil, List.set_cons_zero, List.set_cons_succ]
  refine AW.regl false [3] (by rfl) fun K2 hK2 => ?_ -- region 1
  simp only [go_sem, Nat.reduceAdd, Nat.reduceEqDiff, Nat.reduceLeDiff, true_and, List.length_map, len_row, one_row, E.enc_mk]
  refine hK2 _ _ ?_; try clear hK2 K2
  conv => enter [5]; simp only [setL_cons, setL_nil, List.set_cons_zero, List.set_cons_succ]
  refine AW.seq_k fun K3 hK3 => ?_
  refine AW.regl false [4] (by rfl) fun K4 hK4 => ?_ -- region 2
  simp only [go_sem, Nat.reduceAdd, Nat.reduceEqDiff, Nat.reduceLeDiff, true_and, List.length_map, len_row, one_row, E.enc_mk]
  refine hK4 _ _ ?_; try clear hK4 K4
  conv => enter [5]; simp only [setL_cons, setL_nil, List.set_cons_zero, List.set_cons_succ]
  refine AW.block ?_
  refine AW.loop_wk (α := Nat) (fun i => [.any, (.ref σ.length 0), .any, (.val (.int .i64 ((depthL (l.take i) : Nat) : Int))), (.val (.int .i64 ((i : Nat) : Int))), .any, .any, .any, .any, .any, .any, .any, .any, .any, .any, .any, .any, .any, .any, .any, .any, .any, .any, .any, .any]) (fun i => σ ++ [.cells [.val (.int .i64 k), .val (.int .i64 o), .val (.int .i64 n), .val (.string s), rowAV 5 nl (l.map E.enc)]]) (fun i => l.length - i) (fun i => i ≤ l.length) 0 ?_ ?_
  · exact ⟨Nat.zero_le _, by simp [Wk, depthL], rfl⟩
  · intro i hi
    refine AW.seq_k fun K5 hK5 => ?_
    refine AW.regl false [10] (by rfl) fun K6 hK6 => ?_ -- region 3
    simp only [go_sem, Nat.reduceAdd, Nat.reduceEqDiff, Nat.reduceLeDiff, true_and, List.length_map, len_row, one_row, E.enc_mk]
    refine hK6 _ _ ?_; try clear hK6 K6
    conv => enter [5]; simp only [setL_cons, setL_nil, List.set_cons_zero, List.set_cons_succ]
    refine AW.cond rfl (fun hc10 => ?_) (fun hc10 => ?_)
    · skip
      have hi1 : i < l.length := by simpa using hc10
      have hx : (l.map E.enc)[i]? = some (E.enc (l[i])) := by rw [List.getElem?_map, List.getElem?_eq_getElem hi1]; rfl
      refine AW.skip ?_
      refine hK5 _ _ ?_; try clear hK5 K5
      refine AW.seq_k fun K7 hK7 => ?_
      refine AW.block ?_
      refine AW.regl false [5] (by rfl) fun K8 hK8 => ?_ -- region 5
      simp only [go_sem, Nat.reduceAdd, Nat.reduceEqDiff, Nat.reduceLeDiff, true_and, List.length_map, len_row, one_row, E.enc_mk, at_row hx, enc_get43]
      refine sC.of en16 ((ih _ (mem_at hi1)).on _).here (by rfl) ?_
      simp only [go_sem, Nat.reduceAdd, Nat.reduceEqDiff, Nat.reduceLeDiff, true_and, List.length_map, len_row, one_row, E.enc_mk, at_row hx, enc_get43]
      refine hK8 _ _ ?_; try clear hK8 K8
      conv => enter [5]; simp only [setL_cons, setL_nil, List.set_cons_zero, List.set_cons_succ]
      refine AW.regl false [21] (by rfl) fun K9 hK9 => ?_ -- region 6
      simp only [go_sem, Nat.reduceAdd, Nat.reduceEqDiff, Nat.reduceLeDiff, true_and, List.length_map, len_row, one_row, E.enc_mk]
      refine hK9 _ _ ?_; try clear hK9 K9
      conv => enter [5]; simp only [setL_cons, setL_nil, List.set_cons_zero, List.set_cons_succ]
      refine AW.cond rfl (fun hc21 => ?_) (fun hc21 => ?_)
      · skip
        have hd : depthL (l.take (i + 1)) = (l[i]).depth := by
          have : (depthL (l.take i) : Int) < ((l[i]).depth : Int) := by simpa using hc21
          rw [depthL_take hi1]; omega
        refine AW.lastl false [3] (by rfl) fun K hK => ?_ -- region 7
        simp only [go_sem, Nat.reduceAdd, Nat.reduceEqDiff, Nat.reduceLeDiff, true_and, List.length_map, len_row, one_row, E.enc_mk]
        refine hK _ _ fun env' hw => ?_
        simp only [setL_cons, setL_nil, List.set_cons_zero, List.set_cons_succ] at hw
        refine hK7 _ _ (AW.weaken hw ?_); clear hw; try clear hK7 K7
        refine AW.lastl false [4] (by rfl) fun K hK => ?_ -- region 4
        simp only [go_sem, Nat.reduceAdd, Nat.reduceEqDiff, Nat.reduceLeDiff, true_and, List.length_map, len_row, one_row, E.enc_mk]
        refine hK _ _ fun env' hw => ?_
        simp only [setL_cons, setL_nil, List.set_cons_zero, List.set_cons_succ] at hw
        refine ⟨i + 1, by omega, by omega, ?_, rfl⟩
        refine hw.trans ?_
        simp [Wk, wrap_succ hi1 hl, hd]
        try omega
      · skip
        have hd : depthL (l.take (i + 1)) = depthL (l.take i) := by
          have : ¬ (depthL (l.take i) : Int) < ((l[i]).depth : Int) := by simpa using hc21
          rw [depthL_take hi1]; omega
        refine AW.skip ?_
        refine hK7 _ _ ?_; try clear hK7 K7
        refine AW.lastl false [4] (by rfl) fun K hK => ?_ -- region 4
        simp only [go_sem, Nat.reduceAdd, Nat.reduceEqDiff, Nat.reduceLeDiff, true_and, List.length_map, len_row, one_row, E.enc_mk]
        refine hK _ _ fun env' hw => ?_
        simp only [setL_cons, setL_nil, List.set_cons_zero, List.set_cons_succ] at hw
        refine ⟨i + 1, by omega, by omega, ?_, rfl⟩
        refine hw.trans ?_
        simp [Wk, wrap_succ hi1 hl, hd]
        try omega
    · skip
      have hi1 : i = l.length := by
        have : ¬ i < l.length := by simpa using hc10
        omega
      refine AW.exit ?_
      refine hK3 _ _ ?_; try clear hK3 K3
      refine AW.regl false [2] (by rfl) fun K10 hK10 => ?_ -- region 8
      simp only [go_sem, Nat.reduceAdd, Nat.reduceEqDiff, Nat.reduceLeDiff, true_and, List.length_map, len_row, one_row, E.enc_mk]
      refine hK10 _ _ ?_; try clear hK10 K10
      conv => enter [5]; simp only [setL_cons, setL_nil, List.set_cons_zero, List.set_cons_succ]
      refine AW.ret ⟨.inr rfl, _, rfl, by simp, ?_⟩ -- return 1
      rw [hi1, List.take_length]
      have := hdl l.length
      rw [List.take_length] at this
      rw [wrap_add1 (a := depthL l) (by omega)]
      exact .keep rfl

set_option maxRecDepth 100000 in
theorem depth_step (k o n : Int) (s : ByteArray) (nl : Bool) (l : List E) (hz : 1 + sizeL l < 9223372036854775808) (ih : ∀ e ∈ l, APure prog Γ 15 [e.enc] (i64 (e.depth : Nat))) : APure prog Γ 15 [(E.mk k o n s nl l).enc] (i64 ((E.mk k o n s nl l).depth : Nat)) := by
  refine APure.of func15 rfl fun σ => ?_
  simp only [ntmps15, List.length_cons, List.length_nil, Nat.reduceAdd, Nat.reduceSub, List.replicate_succ, List.replicate_zero, List.cons_append, List.nil_append]
  have hdl : ∀ i, depthL (l.take i) ≤ sizeL l := fun i => by
    have h1 := sizeL_le (l := l) i
    have h2 : ∀ m : List E, depthL m ≤ sizeL m := fun m => by
      have := depth_size (.mk 0 0 0 ⟨#[]⟩ true m)
      simp only [E.depth, E.size] at this
      omega
    exact Nat.le_trans (h2 _) h1
  have hl : l.length ≤ maxLen := by have := length_sizeL l; rw [maxLen_eq]; omega
  rw [E.enc_mk]
  refine AW.regl false [1, 2] (by rfl) fun K1 hK1 => ?_ -- region 0
  simp only [go_sem, Nat.reduceAdd, Nat.reduceEqDiff, Nat.reduceLeDiff, true_and, List.length_map, len_row, one_row, E.enc_mk, aMax, enc_one, enc_len]
  refine hK1 _ _ ?_; try clear hK1 K1
  conv => enter [5]; simp only [setL_cons, setL_nil, List.set_cons_zero, List.set_cons_succ]
  refine AW.regl false [3] (by rfl) fun K2 hK2 => ?_ -- region 1
  simp only [go_sem, Nat.reduceAdd, Nat.reduceEqDiff, Nat.reduceLeDiff, true_and, List.length_map, len_row, one_row, E.enc_mk, aMax, enc_one, enc_len]
  refine hK2 _ _ ?_; try clear hK2 K2
  conv => enter [5]; simp only [setL_cons, setL_nil, List.set_cons_zero, List.set_cons_succ]
  refine AW.seq_k fun K3 hK3 => ?_
  refine AW.regl false [7, 8, 9] (by rfl) fun K4 hK4 => ?_ -- region 2
  simp only [go_sem, Nat.reduceAdd, Nat.reduceEqDiff, Nat.reduceLeDiff, true_and, List.length_map, len_row, one_row, E.enc_mk, aMax, enc_one, enc_len]
  refine hK4 _ _ ?_; try clear hK4 K4
  conv => enter [5]; simp only [setL_cons, setL_nil, List.set_cons_zero, List.set_cons_succ]
  refine AW.block ?_
  refine AW.loop_dr (α := Nat) (fun i => [.any, .any, .any, (.val (.int .i64 ((depthL (l.take i) : Nat) : Int))), .any, .any, .any, (rowAV 5 nl (l.map E.enc)), (.val (.int .i64 ((l.length : Nat) : Int))), (.val (.int .i64 ((i : Nat) : Int))), .any, .any, .any, .any, .any, .any, .any, .any, .any, .any]) (fun i => σ ++ [.cells [.val (.int .i64 k), .val (.int .i64 o), .val (.int .i64 n), .val (.string s), rowAV 5 nl (l.map E.enc)]]) (fun i => l.length - i) (fun i => i ≤ l.length) 0 ?_ ?_ ?_
  · exact ⟨Nat.zero_le _, by simp [Wk, depthL], rfl⟩
  · exact fun y _ => ⟨by simp [belL, AV.bel, row_bel5], bel_one⟩
  · intro i hi
    refine AW.regl false [10] (by rfl) fun K5 hK5 => ?_ -- region 3
    simp only [go_sem, Nat.reduceAdd, Nat.reduceEqDiff, Nat.reduceLeDiff, true_and, List.length_map, len_row, one_row, E.enc_mk, aMax, enc_one, enc_len]
    refine hK5 _ _ ?_; try clear hK5 K5
    conv => enter [5]; simp only [setL_cons, setL_nil, List.set_cons_zero, List.set_cons_succ]
    refine AW.seq_k fun K6 hK6 => ?_
    refine AW.cond rfl (fun hc10 => ?_) (fun hc10 => ?_)
    · skip
      have hi1 : i < l.length := by simpa using hc10
      have hx : (l.map E.enc)[i]? = some (E.enc (l[i])) := by rw [List.getElem?_map, List.getElem?_eq_getElem hi1]; rfl
      have hd : (if depthL (l.take i) < (l[i]).depth then ((l[i]).depth : Int) else (depthL (l.take i) : Int)) = ((depthL (l.take (i + 1)) : Nat) : Int) := by rw [depthL_take hi1]; split <;> omega
      refine AW.skip ?_
      refine hK6 _ _ ?_; try clear hK6 K6
      refine AW.seq_k fun K7 hK7 => ?_
      refine AW.block ?_
      refine AW.regl false [5] (by rfl) fun K8 hK8 => ?_ -- region 4
      simp only [go_sem, Nat.reduceAdd, Nat.reduceEqDiff, Nat.reduceLeDiff, true_and, List.length_map, len_row, one_row, E.enc_mk, aMax, enc_one, enc_len, at_row hx, enc_get47]
      refine hK8 _ _ ?_; try clear hK8 K8
      conv => enter [5]; simp only [setL_cons, setL_nil, List.set_cons_zero, List.set_cons_succ, upd_none, upd_at]
      refine AW.lastl false [3] (by rfl) fun K hK => ?_ -- region 5
      simp only [go_sem, Nat.reduceAdd, Nat.reduceEqDiff, Nat.reduceLeDiff, true_and, List.length_map, len_row, one_row, E.enc_mk, aMax, enc_one, enc_len, enc_get47]
      refine sC.of en15 ((ih _ (mem_at hi1)).on _).here (by rfl) ?_
      simp only [go_sem, Nat.reduceAdd, Nat.reduceEqDiff, Nat.reduceLeDiff, true_and, List.length_map, len_row, one_row, E.enc_mk, aMax, enc_one, enc_len, enc_get47]
      refine hK _ _ fun env' hw => ?_
      simp only [setL_cons, setL_nil, List.set_cons_zero, List.set_cons_succ] at hw
      refine hK7 _ _ (AW.weaken hw ?_); clear hw; try clear hK7 K7
      refine AW.lastl false [9] (by rfl) fun K hK => ?_ -- region 6
      simp only [go_sem, Nat.reduceAdd, Nat.reduceEqDiff, Nat.reduceLeDiff, true_and, List.length_map, len_row, one_row, E.enc_mk, aMax, enc_one, enc_len]
      refine hK _ _ fun env' hw => ?_
      simp only [setL_cons, setL_nil, List.set_cons_zero, List.set_cons_succ] at hw
      refine ⟨i + 1, by omega, by omega, ?_, by first | rfl | (simp [List.take_append, List.take_of_length_le]; done) | (simp [List.take_append, List.take_of_length_le]; repeat' constructor)⟩
      refine hw.trans ?_
      simp [Wk, wrap_succ hi1 hl, hd]
      try omega
    · skip
      have hi1 : i = l.length := by
        have : ¬ i < l.length := by simpa using hc10
        omega
      refine AW.exit ?_
      refine hK3 _ _ ?_; try clear hK3 K3
      refine AW.regl false [2] (by rfl) fun K9 hK9 => ?_ -- region 7
      simp only [go_sem, Nat.reduceAdd, Nat.reduceEqDiff, Nat.reduceLeDiff, true_and, List.length_map, len_row, one_row, E.enc_mk, aMax, enc_one, enc_len]
      refine hK9 _ _ ?_; try clear hK9 K9
      conv => enter [5]; simp only [setL_cons, setL_nil, List.set_cons_zero, List.set_cons_succ]
      refine AW.ret ⟨.inr rfl, _, rfl, by simp, ?_⟩ -- return 1
      rw [hi1, List.take_length]
      have := hdl l.length
      rw [List.take_length] at this
      rw [wrap_add1 (a := depthL l) (by omega)]
      exact .keep rfl

set_option maxRecDepth 100000 in
theorem own_step (k o n : Int) (s : ByteArray) (nl : Bool) (l : List E) (hz : l.length ≤ 2000000) (ih : ∀ e ∈ l, APure prog Γ 12 [e.enc] e.norm.enc) : APure prog Γ 12 [(E.mk k o n s nl l).enc] (E.mk k o n s nl l).norm.enc := by
  refine APure.of func12 rfl fun σ => ?_
  simp only [ntmps12, List.length_cons, List.length_nil, Nat.reduceAdd, Nat.reduceSub, List.replicate_succ, List.replicate_zero, List.cons_append, List.nil_append]
  have hl : l.length ≤ maxLen := by rw [maxLen_eq]; omega
  rw [E.enc_mk, E.norm_mk, E.enc_mk]
  refine AW.regl false [1, 2] (by rfl) fun K1 hK1 => ?_ -- region 0
  simp only [go_sem, Nat.reduceAdd, Nat.reduceEqDiff, Nat.reduceLeDiff, true_and, List.length_map, len_row, one_row, E.enc_mk, enc_one, enc_len]
  refine hK1 _ _ ?_; try clear hK1 K1
  conv => enter [5]; simp only [setL_cons, setL_nil, List.set_cons_zero, List.set_cons_succ]
  refine AW.regl false [3] (by rfl) fun K2 hK2 => ?_ -- region 1
  simp only [go_sem, Nat.reduceAdd, Nat.reduceEqDiff, Nat.reduceLeDiff, true_and, List.length_map, len_row, one_row, E.enc_mk, enc_one, enc_len]
  refine hK2 _ _ ?_; try clear hK2 K2
  conv => enter [5]; simp only [setL_cons, setL_nil, List.set_cons_zero, List.set_cons_succ, upd_none, upd_at]
  refine AW.cap 5 ?_
  simp only [List.append_assoc, List.cons_append, List.nil_append]
  refine AW.own (σ.length + 2) 4 (σ.length + 3) ((app_get σ _ 2).trans rfl) rfl ((app_get σ _ 3).trans rfl) (by decide) ?_
  simp only [app_set, List.set_cons_zero, List.set_cons_succ]
  refine AW.seq_k fun K3 hK3 => ?_
  refine AW.regl false [4] (by rfl) fun K4 hK4 => ?_ -- region 2
  simp only [go_sem, Nat.reduceAdd, Nat.reduceEqDiff, Nat.reduceLeDiff, true_and, List.length_map, len_row, one_row, E.enc_mk, enc_one, enc_len]
  refine hK4 _ _ ?_; try clear hK4 K4
  conv => enter [5]; simp only [setL_cons, setL_nil, List.set_cons_zero, List.set_cons_succ]
  refine AW.block ?_
  refine AW.loop_wk (α := Nat) (fun i => [.any, (.ref σ.length 0), (.ref (σ.length + 1) 0), (.ref (σ.length + 2) 0), (.val (.int .i64 ((i : Nat) : Int))), .any, .any, .any, .any, .any, .any, .any, .any, .any, .any, .any, .any, .any, .any, .any, .any, .any, .any, .any, .any, .any, .any, .any, .any, .any, .any, .any, .any]) (fun i => σ ++ [.cells [.val (.int .i64 k), .val (.int .i64 o), .val (.int .i64 n), .val (.string s), rowAV 5 nl (l.map E.enc)], .cells [.val (.int .i64 0), .val (.int .i64 0), .val (.int .i64 0), .val (.string ⟨#[]⟩), .nilsl], .cells [.val (.int .i64 k), .val (.int .i64 o), .val (.int .i64 n), .val (.string s), .slo true 5 (((l.take i).map E.norm).map E.enc) (σ.length + 3)], .cap i 5]) (fun i => l.length - i) (fun i => i ≤ l.length) 0 ?_ ?_
  · exact ⟨Nat.zero_le _, by simp [Wk], rfl⟩
  · intro i hi
    refine AW.seq_k fun K5 hK5 => ?_
    refine AW.regl false [18] (by rfl) fun K6 hK6 => ?_ -- region 3
    simp only [go_sem, Nat.reduceAdd, Nat.reduceEqDiff, Nat.reduceLeDiff, true_and, List.length_map, len_row, one_row, E.enc_mk, enc_one, enc_len]
    refine hK6 _ _ ?_; try clear hK6 K6
    conv => enter [5]; simp only [setL_cons, setL_nil, List.set_cons_zero, List.set_cons_succ]
    refine AW.cond rfl (fun hc18 => ?_) (fun hc18 => ?_)
    · skip
      have hi1 : i < l.length := by simpa using hc18
      have hx : (l.map E.enc)[i]? = some (E.enc (l[i])) := by rw [List.getElem?_map, List.getElem?_eq_getElem hi1]; rfl
      have hap := app_at (en := fun e => (E.norm e).enc) hi1 (by omega) true 5 64 (by decide)
      have htk : ((l.take i).map E.norm).map E.enc ++ [(E.norm l[i]).enc] = ((l.take (i + 1)).map E.norm).map E.enc := by rw [List.map_map, List.map_map]; exact take_at (E.enc ∘ E.norm) hi1
      rw [show (l.take i).map (fun e => (E.norm e).enc) = ((l.take i).map E.norm).map E.enc by rw [List.map_map]; rfl] at hap
      refine AW.skip ?_
      refine hK5 _ _ ?_; try clear hK5 K5
      refine AW.seq_k fun K7 hK7 => ?_
      refine AW.block ?_
      refine AW.lastml mixed false [] 9 (by kernel_rfl) (by kernel_rfl) (by rfl) fun K hK => ?_ -- region 5
      simp only [go_sem, Nat.reduceAdd, Nat.reduceEqDiff, Nat.reduceLeDiff, true_and, List.length_map, len_row, one_row, E.enc_mk, enc_one, enc_len, at_row hx, enc_get43, hap, row1_45 _ _ (enc_len (E.norm l[i])) (enc_one (E.norm l[i])), htk]
      refine qC.of en12 ((ih _ (mem_at hi1)).on _).here (by rfl) ?_
      simp only [go_sem, Nat.reduceAdd, Nat.reduceEqDiff, Nat.reduceLeDiff, true_and, List.length_map, len_row, one_row, E.enc_mk, enc_one, enc_len, at_row hx, enc_get43, hap, row1_45 _ _ (enc_len (E.norm l[i])) (enc_one (E.norm l[i])), htk]
      refine hK _ _ fun env' hw => ?_
      simp only [setL_cons, setL_nil, List.set_cons_zero, List.set_cons_succ, upd_none, upd_at] at hw
      refine hK7 _ _ (AW.weaken hw ?_); clear hw; try clear hK7 K7
      refine AW.lastl false [4] (by rfl) fun K hK => ?_ -- region 4
      simp only [go_sem, Nat.reduceAdd, Nat.reduceEqDiff, Nat.reduceLeDiff, true_and, List.length_map, len_row, one_row, E.enc_mk, enc_one, enc_len]
      refine hK _ _ fun env' hw => ?_
      simp only [setL_cons, setL_nil, List.set_cons_zero, List.set_cons_succ] at hw
      refine ⟨i + 1, by omega, by omega, ?_, rfl⟩
      refine hw.trans ?_
      simp [Wk, wrap_succ hi1 hl]
      try omega
    · skip
      have hi1 : i = l.length := by
        have : ¬ i < l.length := by simpa using hc18
        omega
      refine AW.exit ?_
      refine hK3 _ _ ?_; try clear hK3 K3
      refine AW.regl false [] (by rfl) fun K8 hK8 => ?_ -- region 6
      simp only [go_sem, Nat.reduceAdd, Nat.reduceEqDiff, Nat.reduceLeDiff, true_and, List.length_map, len_row, one_row, E.enc_mk, enc_one, enc_len]
      refine hK8 _ _ ?_; try clear hK8 K8
      conv => enter [5]; simp only [setL_cons, setL_nil, List.set_cons_zero, List.set_cons_succ, upd_none, upd_at]
      rw [hi1, List.take_length]
      refine AW.ret ⟨.inr rfl, _, ret_cell (v := .agg [i64 k, i64 o, i64 n, str s, .slo true 5 ((l.map E.norm).map E.enc) (σ.length + 3)]) rfl ((load_app σ _ 47 1 0).trans (by simp only [go_sem, aLoadAt] <;> rfl)), by simp, ?_⟩
      exact .agg (.cons (.keep rfl) (.cons (.keep rfl) (.cons (.keep rfl) (.cons (.keep rfl) (.cons (frz_row (fun e m => enc_bel m e) (by omega) (l.map E.norm)) .nil)))))





set_option maxRecDepth 100000 in
theorem single_calls (hΓ : Words Γ) (k o n : Int) (s : ByteArray) (nl : Bool) (l : List E) (hs : s.size ≤ 1000000000) : APure prog Γ 50 [(E.mk k o n s nl l).enc] (bool (E.mk k o n s nl l).single) := by
  refine APure.of func50 rfl fun σ => ?_
  simp only [ntmps50, List.length_cons, List.length_nil, Nat.reduceAdd, Nat.reduceSub, List.replicate_succ, List.replicate_zero, List.cons_append, List.nil_append]
  rw [E.enc_mk]
  simp only [E.single]
  refine AW.regl false [1, 2] (by rfl) fun K1 hK1 => ?_ -- region 0
  simp only [go_sem, Nat.reduceAdd, Nat.reduceEqDiff, Nat.reduceLeDiff, true_and, List.length_map, len_row, one_row, E.enc_mk, ba_beqL]
  refine hK1 _ _ ?_; try clear hK1 K1
  conv => enter [5]; simp only [setL_cons, setL_nil, List.set_cons_zero, List.set_cons_succ]
  refine AW.regtf false 3 (.val (.bool ((n == 0) && (decide (s = ⟨#[]⟩))))) (by rfl) ?_ ?_ -- region 1
  · skip
    cases h7 : ((n == 0))
    · skip
      simp only [go_sem, Nat.reduceAdd, Nat.reduceEqDiff, Nat.reduceLeDiff, true_and, List.length_map, len_row, one_row, E.enc_mk, ba_beqL, h7]
      try simp [upd_at, h7, List.length_map, len_row, one_row, E.enc_mk, ba_beqL]
    · skip
      simp only [go_sem, Nat.reduceAdd, Nat.reduceEqDiff, Nat.reduceLeDiff, true_and, List.length_map, len_row, one_row, E.enc_mk, ba_beqL, h7]
      try simp [upd_at, h7, List.length_map, len_row, one_row, E.enc_mk, ba_beqL]
  conv => enter [5]; simp only [List.set_cons_zero, List.set_cons_succ]
  refine AW.seq_k fun K3 hK3 => ?_
  refine AW.regl false [4] (by rfl) fun K4 hK4 => ?_ -- region 2
  simp only [go_sem, Nat.reduceAdd, Nat.reduceEqDiff, Nat.reduceLeDiff, true_and, List.length_map, len_row, one_row, E.enc_mk, ba_beqL]
  refine hK4 _ _ ?_; try clear hK4 K4
  conv => enter [5]; simp only [setL_cons, setL_nil, List.set_cons_zero, List.set_cons_succ]
  refine AW.regl false [17] (by rfl) fun K5 hK5 => ?_ -- region 3
  simp only [go_sem, Nat.reduceAdd, Nat.reduceEqDiff, Nat.reduceLeDiff, true_and, List.length_map, len_row, one_row, E.enc_mk, ba_beqL]
  refine hK5 _ _ ?_; try clear hK5 K5
  conv => enter [5]; simp only [setL_cons, setL_nil, List.set_cons_zero, List.set_cons_succ]
  refine AW.block ?_
  refine AW.regl false [18] (by rfl) fun K6 hK6 => ?_ -- region 4
  simp only [go_sem, Nat.reduceAdd, Nat.reduceEqDiff, Nat.reduceLeDiff, true_and, List.length_map, len_row, one_row, E.enc_mk, ba_beqL]
  refine hK6 _ _ ?_; try clear hK6 K6
  conv => enter [5]; simp only [setL_cons, setL_nil, List.set_cons_zero, List.set_cons_succ]
  refine AW.cond rfl (fun hc18 => ?_) (fun hc18 => ?_)
  · skip
    refine AW.regcuts fun K7 hK7 => ?_ -- region 5
    refine AOps.cut false 8 27 (.val (.bool ((decide (n ≥ 0)) && (decide (s = ⟨#[]⟩))))) (by rfl) ?_ ?_
    · skip
      cases h22 : ((decide (n ≥ 0)))
      · skip
        simp only [go_sem, Nat.reduceAdd, Nat.reduceEqDiff, Nat.reduceLeDiff, true_and, List.length_map, len_row, one_row, E.enc_mk, ba_beqL, List.take_succ_cons, List.take_zero, h22]
        try simp [upd_at, h22, List.length_map, len_row, one_row, E.enc_mk, ba_beqL]
      · skip
        simp only [go_sem, Nat.reduceAdd, Nat.reduceEqDiff, Nat.reduceLeDiff, true_and, List.length_map, len_row, one_row, E.enc_mk, ba_beqL, List.take_succ_cons, List.take_zero, h22]
        try simp [upd_at, h22, List.length_map, len_row, one_row, E.enc_mk, ba_beqL]
    simp only [List.drop_succ_cons, List.drop_zero, List.set_cons_zero, List.set_cons_succ]
    refine AOps.cut false 5 32 (.val (.bool (((decide (n ≥ 0)) && (decide (s = ⟨#[]⟩))) && (o == 0)))) (by rfl) ?_ ?_
    · skip
      cases h27 : (((decide (n ≥ 0)) && (decide (s = ⟨#[]⟩))))
      · skip
        simp only [go_sem, Nat.reduceAdd, Nat.reduceEqDiff, Nat.reduceLeDiff, true_and, List.length_map, len_row, one_row, E.enc_mk, ba_beqL, List.take_succ_cons, List.take_zero, h27]
        try simp [upd_at, h27, List.length_map, len_row, one_row, E.enc_mk, ba_beqL]
      · skip
        simp only [go_sem, Nat.reduceAdd, Nat.reduceEqDiff, Nat.reduceLeDiff, true_and, List.length_map, len_row, one_row, E.enc_mk, ba_beqL, List.take_succ_cons, List.take_zero, h27]
        try simp [upd_at, h27, List.length_map, len_row, one_row, E.enc_mk, ba_beqL]
    simp only [List.drop_succ_cons, List.drop_zero, List.set_cons_zero, List.set_cons_succ]
    refine AOps.cut false 5 2 (.val (.bool ((((decide (n ≥ 0)) && (decide (s = ⟨#[]⟩))) && (o == 0)) && (((l.length : Nat) : Int) == 0)))) (by rfl) ?_ ?_
    · skip
      cases h32 : ((((decide (n ≥ 0)) && (decide (s = ⟨#[]⟩))) && (o == 0)))
      · skip
        simp only [go_sem, Nat.reduceAdd, Nat.reduceEqDiff, Nat.reduceLeDiff, true_and, List.length_map, len_row, one_row, E.enc_mk, ba_beqL, List.take_succ_cons, List.take_zero, h32]
        try simp [upd_at, h32, List.length_map, len_row, one_row, E.enc_mk, ba_beqL]
      · skip
        simp only [go_sem, Nat.reduceAdd, Nat.reduceEqDiff, Nat.reduceLeDiff, true_and, List.length_map, len_row, one_row, E.enc_mk, ba_beqL, List.take_succ_cons, List.take_zero, h32]
        try simp [upd_at, h32, List.length_map, len_row, one_row, E.enc_mk, ba_beqL]
    simp only [List.drop_succ_cons, List.drop_zero, List.set_cons_zero, List.set_cons_succ]
    refine AOps.nil (hK7 _ _ ?_); try clear hK7 K7
    refine AW.ret ⟨.inr rfl, _, rfl, by simp, ?_⟩ -- return 1
    refine frzB ?_
    simp only [A.single, hc18, if_true, if_false, Bool.false_eq_true]
  · skip
    refine AW.regl false [37] (by rfl) fun K8 hK8 => ?_ -- region 6
    simp only [go_sem, Nat.reduceAdd, Nat.reduceEqDiff, Nat.reduceLeDiff, true_and, List.length_map, len_row, one_row, E.enc_mk, ba_beqL]
    refine hK8 _ _ ?_; try clear hK8 K8
    conv => enter [5]; simp only [setL_cons, setL_nil, List.set_cons_zero, List.set_cons_succ]
    refine AW.cond rfl (fun hc37 => ?_) (fun hc37 => ?_)
    · skip
      refine AW.regcuts fun K9 hK9 => ?_ -- region 7
      refine AOps.cut false 8 46 (.val (.bool ((decide (n ≥ 0)) && (decide (n ≤ 1))))) (by rfl) ?_ ?_
      · skip
        cases h41 : ((decide (n ≥ 0)))
        · skip
          simp only [go_sem, Nat.reduceAdd, Nat.reduceEqDiff, Nat.reduceLeDiff, true_and, List.length_map, len_row, one_row, E.enc_mk, ba_beqL, List.take_succ_cons, List.take_zero, h41]
          try simp [upd_at, h41, List.length_map, len_row, one_row, E.enc_mk, ba_beqL]
        · skip
          simp only [go_sem, Nat.reduceAdd, Nat.reduceEqDiff, Nat.reduceLeDiff, true_and, List.length_map, len_row, one_row, E.enc_mk, ba_beqL, List.take_succ_cons, List.take_zero, h41]
          try simp [upd_at, h41, List.length_map, len_row, one_row, E.enc_mk, ba_beqL]
      simp only [List.drop_succ_cons, List.drop_zero, List.set_cons_zero, List.set_cons_succ]
      refine AOps.cut false 5 51 (.val (.bool (((decide (n ≥ 0)) && (decide (n ≤ 1))) && (decide (s = ⟨#[]⟩))))) (by rfl) ?_ ?_
      · skip
        cases h46 : (((decide (n ≥ 0)) && (decide (n ≤ 1))))
        · skip
          simp only [go_sem, Nat.reduceAdd, Nat.reduceEqDiff, Nat.reduceLeDiff, true_and, List.length_map, len_row, one_row, E.enc_mk, ba_beqL, List.take_succ_cons, List.take_zero, h46]
          try simp [upd_at, h46, List.length_map, len_row, one_row, E.enc_mk, ba_beqL]
        · skip
          simp only [go_sem, Nat.reduceAdd, Nat.reduceEqDiff, Nat.reduceLeDiff, true_and, List.length_map, len_row, one_row, E.enc_mk, ba_beqL, List.take_succ_cons, List.take_zero, h46]
          try simp [upd_at, h46, List.length_map, len_row, one_row, E.enc_mk, ba_beqL]
      simp only [List.drop_succ_cons, List.drop_zero, List.set_cons_zero, List.set_cons_succ]
      refine AOps.cut false 5 56 (.val (.bool ((((decide (n ≥ 0)) && (decide (n ≤ 1))) && (decide (s = ⟨#[]⟩))) && (o == 0)))) (by rfl) ?_ ?_
      · skip
        cases h51 : ((((decide (n ≥ 0)) && (decide (n ≤ 1))) && (decide (s = ⟨#[]⟩))))
        · skip
          simp only [go_sem, Nat.reduceAdd, Nat.reduceEqDiff, Nat.reduceLeDiff, true_and, List.length_map, len_row, one_row, E.enc_mk, ba_beqL, List.take_succ_cons, List.take_zero, h51]
          try simp [upd_at, h51, List.length_map, len_row, one_row, E.enc_mk, ba_beqL]
        · skip
          simp only [go_sem, Nat.reduceAdd, Nat.reduceEqDiff, Nat.reduceLeDiff, true_and, List.length_map, len_row, one_row, E.enc_mk, ba_beqL, List.take_succ_cons, List.take_zero, h51]
          try simp [upd_at, h51, List.length_map, len_row, one_row, E.enc_mk, ba_beqL]
      simp only [List.drop_succ_cons, List.drop_zero, List.set_cons_zero, List.set_cons_succ]
      refine AOps.cut false 5 2 (.val (.bool (((((decide (n ≥ 0)) && (decide (n ≤ 1))) && (decide (s = ⟨#[]⟩))) && (o == 0)) && (((l.length : Nat) : Int) == 0)))) (by rfl) ?_ ?_
      · skip
        cases h56 : (((((decide (n ≥ 0)) && (decide (n ≤ 1))) && (decide (s = ⟨#[]⟩))) && (o == 0)))
        · skip
          simp only [go_sem, Nat.reduceAdd, Nat.reduceEqDiff, Nat.reduceLeDiff, true_and, List.length_map, len_row, one_row, E.enc_mk, ba_beqL, List.take_succ_cons, List.take_zero, h56]
          try simp [upd_at, h56, List.length_map, len_row, one_row, E.enc_mk, ba_beqL]
        · skip
          simp only [go_sem, Nat.reduceAdd, Nat.reduceEqDiff, Nat.reduceLeDiff, true_and, List.length_map, len_row, one_row, E.enc_mk, ba_beqL, List.take_succ_cons, List.take_zero, h56]
          try simp [upd_at, h56, List.length_map, len_row, one_row, E.enc_mk, ba_beqL]
      simp only [List.drop_succ_cons, List.drop_zero, List.set_cons_zero, List.set_cons_succ]
      refine AOps.nil (hK9 _ _ ?_); try clear hK9 K9
      refine AW.ret ⟨.inr rfl, _, rfl, by simp, ?_⟩ -- return 2
      refine frzB ?_
      simp only [A.single, hc18, hc37, if_true, if_false, Bool.false_eq_true]
    · skip
      refine AW.regl false [61] (by rfl) fun K10 hK10 => ?_ -- region 8
      simp only [go_sem, Nat.reduceAdd, Nat.reduceEqDiff, Nat.reduceLeDiff, true_and, List.length_map, len_row, one_row, E.enc_mk, ba_beqL]
      refine hK10 _ _ ?_; try clear hK10 K10
      conv => enter [5]; simp only [setL_cons, setL_nil, List.set_cons_zero, List.set_cons_succ]
      refine AW.cond rfl (fun hc61 => ?_) (fun hc61 => ?_)
      · skip
        refine AW.regcuts fun K11 hK11 => ?_ -- region 9
        refine AOps.cut false 8 70 (.val (.bool ((nameM s) && (n == 0)))) (by rfl) ?_ ?_
        · skip
          cases h65 : ((nameM s))
          · skip
            simp only [go_sem, Nat.reduceAdd, Nat.reduceEqDiff, Nat.reduceLeDiff, true_and, List.length_map, len_row, one_row, E.enc_mk, ba_beqL, List.take_succ_cons, List.take_zero, h65]
            refine sC.of en43 ((name_calls hΓ s (by omega)).on _).here (by rfl) ?_
            simp only [go_sem, Nat.reduceAdd, Nat.reduceEqDiff, Nat.reduceLeDiff, true_and, List.length_map, len_row, one_row, E.enc_mk, ba_beqL, List.take_succ_cons, List.take_zero, h65]
            try simp [upd_at, h65, List.length_map, len_row, one_row, E.enc_mk, ba_beqL]
          · skip
            simp only [go_sem, Nat.reduceAdd, Nat.reduceEqDiff, Nat.reduceLeDiff, true_and, List.length_map, len_row, one_row, E.enc_mk, ba_beqL, List.take_succ_cons, List.take_zero, h65]
            refine sC.of en43 ((name_calls hΓ s (by omega)).on _).here (by rfl) ?_
            simp only [go_sem, Nat.reduceAdd, Nat.reduceEqDiff, Nat.reduceLeDiff, true_and, List.length_map, len_row, one_row, E.enc_mk, ba_beqL, List.take_succ_cons, List.take_zero, h65]
            try simp [upd_at, h65, List.length_map, len_row, one_row, E.enc_mk, ba_beqL]
        simp only [List.drop_succ_cons, List.drop_zero, List.set_cons_zero, List.set_cons_succ]
        refine AOps.cut false 5 75 (.val (.bool (((nameM s) && (n == 0)) && (o == 0)))) (by rfl) ?_ ?_
        · skip
          cases h70 : (((nameM s) && (n == 0)))
          · skip
            simp only [go_sem, Nat.reduceAdd, Nat.reduceEqDiff, Nat.reduceLeDiff, true_and, List.length_map, len_row, one_row, E.enc_mk, ba_beqL, List.take_succ_cons, List.take_zero, h70]
            try simp [upd_at, h70, List.length_map, len_row, one_row, E.enc_mk, ba_beqL]
          · skip
            simp only [go_sem, Nat.reduceAdd, Nat.reduceEqDiff, Nat.reduceLeDiff, true_and, List.length_map, len_row, one_row, E.enc_mk, ba_beqL, List.take_succ_cons, List.take_zero, h70]
            try simp [upd_at, h70, List.length_map, len_row, one_row, E.enc_mk, ba_beqL]
        simp only [List.drop_succ_cons, List.drop_zero, List.set_cons_zero, List.set_cons_succ]
        refine AOps.cut false 5 2 (.val (.bool ((((nameM s) && (n == 0)) && (o == 0)) && (((l.length : Nat) : Int) == 0)))) (by rfl) ?_ ?_
        · skip
          cases h75 : ((((nameM s) && (n == 0)) && (o == 0)))
          · skip
            simp only [go_sem, Nat.reduceAdd, Nat.reduceEqDiff, Nat.reduceLeDiff, true_and, List.length_map, len_row, one_row, E.enc_mk, ba_beqL, List.take_succ_cons, List.take_zero, h75]
            try simp [upd_at, h75, List.length_map, len_row, one_row, E.enc_mk, ba_beqL]
          · skip
            simp only [go_sem, Nat.reduceAdd, Nat.reduceEqDiff, Nat.reduceLeDiff, true_and, List.length_map, len_row, one_row, E.enc_mk, ba_beqL, List.take_succ_cons, List.take_zero, h75]
            try simp [upd_at, h75, List.length_map, len_row, one_row, E.enc_mk, ba_beqL]
        simp only [List.drop_succ_cons, List.drop_zero, List.set_cons_zero, List.set_cons_succ]
        refine AOps.nil (hK11 _ _ ?_); try clear hK11 K11
        refine AW.ret ⟨.inr rfl, _, rfl, by simp, ?_⟩ -- return 3
        refine frzB ?_
        simp only [A.single, hc18, hc37, hc61, if_true, if_false, Bool.false_eq_true]
      · skip
        refine AW.regl false [80] (by rfl) fun K12 hK12 => ?_ -- region 10
        simp only [go_sem, Nat.reduceAdd, Nat.reduceEqDiff, Nat.reduceLeDiff, true_and, List.length_map, len_row, one_row, E.enc_mk, ba_beqL]
        refine hK12 _ _ ?_; try clear hK12 K12
        conv => enter [5]; simp only [setL_cons, setL_nil, List.set_cons_zero, List.set_cons_succ]
        refine AW.cond rfl (fun hc80 => ?_) (fun hc80 => ?_)
        · skip
          refine AW.regcuts fun K13 hK13 => ?_ -- region 11
          refine AOps.cut false 6 87 (.val (.bool (((n == 0) && (decide (s = ⟨#[]⟩))) && (decide (o ≥ 0))))) (by rfl) ?_ ?_
          · skip
            cases h3 : (((n == 0) && (decide (s = ⟨#[]⟩))))
            · skip
              simp only [go_sem, Nat.reduceAdd, Nat.reduceEqDiff, Nat.reduceLeDiff, true_and, List.length_map, len_row, one_row, E.enc_mk, ba_beqL, List.take_succ_cons, List.take_zero, h3]
              try simp [upd_at, h3, List.length_map, len_row, one_row, E.enc_mk, ba_beqL]
            · skip
              simp only [go_sem, Nat.reduceAdd, Nat.reduceEqDiff, Nat.reduceLeDiff, true_and, List.length_map, len_row, one_row, E.enc_mk, ba_beqL, List.take_succ_cons, List.take_zero, h3]
              try simp [upd_at, h3, List.length_map, len_row, one_row, E.enc_mk, ba_beqL]
          simp only [List.drop_succ_cons, List.drop_zero, List.set_cons_zero, List.set_cons_succ]
          refine AOps.cut false 5 92 (.val (.bool ((((n == 0) && (decide (s = ⟨#[]⟩))) && (decide (o ≥ 0))) && (decide (o ≤ 2))))) (by rfl) ?_ ?_
          · skip
            cases h87 : ((((n == 0) && (decide (s = ⟨#[]⟩))) && (decide (o ≥ 0))))
            · skip
              simp only [go_sem, Nat.reduceAdd, Nat.reduceEqDiff, Nat.reduceLeDiff, true_and, List.length_map, len_row, one_row, E.enc_mk, ba_beqL, List.take_succ_cons, List.take_zero, h87]
              try simp [upd_at, h87, List.length_map, len_row, one_row, E.enc_mk, ba_beqL]
            · skip
              simp only [go_sem, Nat.reduceAdd, Nat.reduceEqDiff, Nat.reduceLeDiff, true_and, List.length_map, len_row, one_row, E.enc_mk, ba_beqL, List.take_succ_cons, List.take_zero, h87]
              try simp [upd_at, h87, List.length_map, len_row, one_row, E.enc_mk, ba_beqL]
          simp only [List.drop_succ_cons, List.drop_zero, List.set_cons_zero, List.set_cons_succ]
          refine AOps.cut false 5 2 (.val (.bool (((((n == 0) && (decide (s = ⟨#[]⟩))) && (decide (o ≥ 0))) && (decide (o ≤ 2))) && (((l.length : Nat) : Int) == 1)))) (by rfl) ?_ ?_
          · skip
            cases h92 : (((((n == 0) && (decide (s = ⟨#[]⟩))) && (decide (o ≥ 0))) && (decide (o ≤ 2))))
            · skip
              simp only [go_sem, Nat.reduceAdd, Nat.reduceEqDiff, Nat.reduceLeDiff, true_and, List.length_map, len_row, one_row, E.enc_mk, ba_beqL, List.take_succ_cons, List.take_zero, h92]
              try simp [upd_at, h92, List.length_map, len_row, one_row, E.enc_mk, ba_beqL]
            · skip
              simp only [go_sem, Nat.reduceAdd, Nat.reduceEqDiff, Nat.reduceLeDiff, true_and, List.length_map, len_row, one_row, E.enc_mk, ba_beqL, List.take_succ_cons, List.take_zero, h92]
              try simp [upd_at, h92, List.length_map, len_row, one_row, E.enc_mk, ba_beqL]
          simp only [List.drop_succ_cons, List.drop_zero, List.set_cons_zero, List.set_cons_succ]
          refine AOps.nil (hK13 _ _ ?_); try clear hK13 K13
          refine AW.ret ⟨.inr rfl, _, rfl, by simp, ?_⟩ -- return 4
          refine frzB ?_
          simp only [A.single, hc18, hc37, hc61, hc80, if_true, if_false, Bool.false_eq_true]
        · skip
          refine AW.regl false [97] (by rfl) fun K14 hK14 => ?_ -- region 12
          simp only [go_sem, Nat.reduceAdd, Nat.reduceEqDiff, Nat.reduceLeDiff, true_and, List.length_map, len_row, one_row, E.enc_mk, ba_beqL]
          refine hK14 _ _ ?_; try clear hK14 K14
          conv => enter [5]; simp only [setL_cons, setL_nil, List.set_cons_zero, List.set_cons_succ]
          refine AW.cond rfl (fun hc97 => ?_) (fun hc97 => ?_)
          · skip
            refine AW.regcuts fun K15 hK15 => ?_ -- region 13
            refine AOps.cut false 6 104 (.val (.bool (((n == 0) && (decide (s = ⟨#[]⟩))) && (decide (o ≥ 0))))) (by rfl) ?_ ?_
            · skip
              cases h3 : (((n == 0) && (decide (s = ⟨#[]⟩))))
              · skip
                simp only [go_sem, Nat.reduceAdd, Nat.reduceEqDiff, Nat.reduceLeDiff, true_and, List.length_map, len_row, one_row, E.enc_mk, ba_beqL, List.take_succ_cons, List.take_zero, h3]
                try simp [upd_at, h3, List.length_map, len_row, one_row, E.enc_mk, ba_beqL]
              · skip
                simp only [go_sem, Nat.reduceAdd, Nat.reduceEqDiff, Nat.reduceLeDiff, true_and, List.length_map, len_row, one_row, E.enc_mk, ba_beqL, List.take_succ_cons, List.take_zero, h3]
                try simp [upd_at, h3, List.length_map, len_row, one_row, E.enc_mk, ba_beqL]
            simp only [List.drop_succ_cons, List.drop_zero, List.set_cons_zero, List.set_cons_succ]
            refine AOps.cut false 5 109 (.val (.bool ((((n == 0) && (decide (s = ⟨#[]⟩))) && (decide (o ≥ 0))) && (decide (o ≤ 15))))) (by rfl) ?_ ?_
            · skip
              cases h104 : ((((n == 0) && (decide (s = ⟨#[]⟩))) && (decide (o ≥ 0))))
              · skip
                simp only [go_sem, Nat.reduceAdd, Nat.reduceEqDiff, Nat.reduceLeDiff, true_and, List.length_map, len_row, one_row, E.enc_mk, ba_beqL, List.take_succ_cons, List.take_zero, h104]
                try simp [upd_at, h104, List.length_map, len_row, one_row, E.enc_mk, ba_beqL]
              · skip
                simp only [go_sem, Nat.reduceAdd, Nat.reduceEqDiff, Nat.reduceLeDiff, true_and, List.length_map, len_row, one_row, E.enc_mk, ba_beqL, List.take_succ_cons, List.take_zero, h104]
                try simp [upd_at, h104, List.length_map, len_row, one_row, E.enc_mk, ba_beqL]
            simp only [List.drop_succ_cons, List.drop_zero, List.set_cons_zero, List.set_cons_succ]
            refine AOps.cut false 5 2 (.val (.bool (((((n == 0) && (decide (s = ⟨#[]⟩))) && (decide (o ≥ 0))) && (decide (o ≤ 15))) && (((l.length : Nat) : Int) == 2)))) (by rfl) ?_ ?_
            · skip
              cases h109 : (((((n == 0) && (decide (s = ⟨#[]⟩))) && (decide (o ≥ 0))) && (decide (o ≤ 15))))
              · skip
                simp only [go_sem, Nat.reduceAdd, Nat.reduceEqDiff, Nat.reduceLeDiff, true_and, List.length_map, len_row, one_row, E.enc_mk, ba_beqL, List.take_succ_cons, List.take_zero, h109]
                try simp [upd_at, h109, List.length_map, len_row, one_row, E.enc_mk, ba_beqL]
              · skip
                simp only [go_sem, Nat.reduceAdd, Nat.reduceEqDiff, Nat.reduceLeDiff, true_and, List.length_map, len_row, one_row, E.enc_mk, ba_beqL, List.take_succ_cons, List.take_zero, h109]
                try simp [upd_at, h109, List.length_map, len_row, one_row, E.enc_mk, ba_beqL]
            simp only [List.drop_succ_cons, List.drop_zero, List.set_cons_zero, List.set_cons_succ]
            refine AOps.nil (hK15 _ _ ?_); try clear hK15 K15
            refine AW.ret ⟨.inr rfl, _, rfl, by simp, ?_⟩ -- return 5
            refine frzB ?_
            simp only [A.single, hc18, hc37, hc61, hc80, hc97, if_true, if_false, Bool.false_eq_true]
          · skip
            refine AW.regl false [114] (by rfl) fun K16 hK16 => ?_ -- region 14
            simp only [go_sem, Nat.reduceAdd, Nat.reduceEqDiff, Nat.reduceLeDiff, true_and, List.length_map, len_row, one_row, E.enc_mk, ba_beqL]
            refine hK16 _ _ ?_; try clear hK16 K16
            conv => enter [5]; simp only [setL_cons, setL_nil, List.set_cons_zero, List.set_cons_succ]
            refine AW.cond rfl (fun hc114 => ?_) (fun hc114 => ?_)
            · skip
              refine AW.regtf false 2 (.val (.bool ((((n == 0) && (decide (s = ⟨#[]⟩))) && (o == 0)) && (((l.length : Nat) : Int) == 3)))) (by rfl) ?_ ?_ -- region 15
              · skip
                cases h3 : (((n == 0) && (decide (s = ⟨#[]⟩))))
                · skip
                  simp only [go_sem, Nat.reduceAdd, Nat.reduceEqDiff, Nat.reduceLeDiff, true_and, List.length_map, len_row, one_row, E.enc_mk, ba_beqL, h3]
                  try simp [upd_at, h3, List.length_map, len_row, one_row, E.enc_mk, ba_beqL]
                · skip
                  cases h120 : ((o == 0))
                  · skip
                    simp only [go_sem, Nat.reduceAdd, Nat.reduceEqDiff, Nat.reduceLeDiff, true_and, List.length_map, len_row, one_row, E.enc_mk, ba_beqL, h3, h120]
                    try simp [upd_at, h3, h120, List.length_map, len_row, one_row, E.enc_mk, ba_beqL]
                  · skip
                    simp only [go_sem, Nat.reduceAdd, Nat.reduceEqDiff, Nat.reduceLeDiff, true_and, List.length_map, len_row, one_row, E.enc_mk, ba_beqL, h3, h120]
                    try simp [upd_at, h3, h120, List.length_map, len_row, one_row, E.enc_mk, ba_beqL]
              conv => enter [5]; simp only [List.set_cons_zero, List.set_cons_succ]
              refine AW.ret ⟨.inr rfl, _, rfl, by simp, ?_⟩ -- return 6
              refine frzB ?_
              simp only [A.single, hc18, hc37, hc61, hc80, hc97, hc114, if_true, if_false, Bool.false_eq_true]
            · skip
              refine AW.regl false [126] (by rfl) fun K18 hK18 => ?_ -- region 16
              simp only [go_sem, Nat.reduceAdd, Nat.reduceEqDiff, Nat.reduceLeDiff, true_and, List.length_map, len_row, one_row, E.enc_mk, ba_beqL]
              refine hK18 _ _ ?_; try clear hK18 K18
              conv => enter [5]; simp only [setL_cons, setL_nil, List.set_cons_zero, List.set_cons_succ]
              refine AW.cond rfl (fun hc126 => ?_) (fun hc126 => ?_)
              · skip
                refine AW.regcuts fun K19 hK19 => ?_ -- region 17
                refine AOps.cut false 8 135 (.val (.bool ((nameM s) && (n == 0)))) (by rfl) ?_ ?_
                · skip
                  cases h130 : ((nameM s))
                  · skip
                    simp only [go_sem, Nat.reduceAdd, Nat.reduceEqDiff, Nat.reduceLeDiff, true_and, List.length_map, len_row, one_row, E.enc_mk, ba_beqL, List.take_succ_cons, List.take_zero, h130]
                    refine sC.of en43 ((name_calls hΓ s (by omega)).on _).here (by rfl) ?_
                    simp only [go_sem, Nat.reduceAdd, Nat.reduceEqDiff, Nat.reduceLeDiff, true_and, List.length_map, len_row, one_row, E.enc_mk, ba_beqL, List.take_succ_cons, List.take_zero, h130]
                    try simp [upd_at, h130, List.length_map, len_row, one_row, E.enc_mk, ba_beqL]
                  · skip
                    simp only [go_sem, Nat.reduceAdd, Nat.reduceEqDiff, Nat.reduceLeDiff, true_and, List.length_map, len_row, one_row, E.enc_mk, ba_beqL, List.take_succ_cons, List.take_zero, h130]
                    refine sC.of en43 ((name_calls hΓ s (by omega)).on _).here (by rfl) ?_
                    simp only [go_sem, Nat.reduceAdd, Nat.reduceEqDiff, Nat.reduceLeDiff, true_and, List.length_map, len_row, one_row, E.enc_mk, ba_beqL, List.take_succ_cons, List.take_zero, h130]
                    try simp [upd_at, h130, List.length_map, len_row, one_row, E.enc_mk, ba_beqL]
                simp only [List.drop_succ_cons, List.drop_zero, List.set_cons_zero, List.set_cons_succ]
                refine AOps.cut false 5 140 (.val (.bool (((nameM s) && (n == 0)) && (o == 0)))) (by rfl) ?_ ?_
                · skip
                  cases h135 : (((nameM s) && (n == 0)))
                  · skip
                    simp only [go_sem, Nat.reduceAdd, Nat.reduceEqDiff, Nat.reduceLeDiff, true_and, List.length_map, len_row, one_row, E.enc_mk, ba_beqL, List.take_succ_cons, List.take_zero, h135]
                    try simp [upd_at, h135, List.length_map, len_row, one_row, E.enc_mk, ba_beqL]
                  · skip
                    simp only [go_sem, Nat.reduceAdd, Nat.reduceEqDiff, Nat.reduceLeDiff, true_and, List.length_map, len_row, one_row, E.enc_mk, ba_beqL, List.take_succ_cons, List.take_zero, h135]
                    try simp [upd_at, h135, List.length_map, len_row, one_row, E.enc_mk, ba_beqL]
                simp only [List.drop_succ_cons, List.drop_zero, List.set_cons_zero, List.set_cons_succ]
                refine AOps.cut false 5 2 (.val (.bool ((((nameM s) && (n == 0)) && (o == 0)) && (decide (((l.length : Nat) : Int) ≤ 1000))))) (by rfl) ?_ ?_
                · skip
                  cases h140 : ((((nameM s) && (n == 0)) && (o == 0)))
                  · skip
                    simp only [go_sem, Nat.reduceAdd, Nat.reduceEqDiff, Nat.reduceLeDiff, true_and, List.length_map, len_row, one_row, E.enc_mk, ba_beqL, List.take_succ_cons, List.take_zero, h140]
                    try simp [upd_at, h140, List.length_map, len_row, one_row, E.enc_mk, ba_beqL]
                  · skip
                    simp only [go_sem, Nat.reduceAdd, Nat.reduceEqDiff, Nat.reduceLeDiff, true_and, List.length_map, len_row, one_row, E.enc_mk, ba_beqL, List.take_succ_cons, List.take_zero, h140]
                    try simp [upd_at, h140, List.length_map, len_row, one_row, E.enc_mk, ba_beqL]
                simp only [List.drop_succ_cons, List.drop_zero, List.set_cons_zero, List.set_cons_succ]
                refine AOps.nil (hK19 _ _ ?_); try clear hK19 K19
                refine AW.ret ⟨.inr rfl, _, rfl, by simp, ?_⟩ -- return 7
                refine frzB ?_
                simp only [A.single, hc18, hc37, hc61, hc80, hc97, hc114, hc126, if_true, if_false, Bool.false_eq_true]
              · skip
                refine AW.skip ?_
                refine hK3 _ _ ?_; try clear hK3 K3
                refine AW.regl false [2] (by rfl) fun K20 hK20 => ?_ -- region 18
                simp only [go_sem, Nat.reduceAdd, Nat.reduceEqDiff, Nat.reduceLeDiff, true_and, List.length_map, len_row, one_row, E.enc_mk, ba_beqL]
                refine hK20 _ _ ?_; try clear hK20 K20
                conv => enter [5]; simp only [setL_cons, setL_nil, List.set_cons_zero, List.set_cons_succ]
                refine AW.ret ⟨.inr rfl, _, rfl, by simp, ?_⟩ -- return 8
                refine frzB ?_
                simp only [A.single, hc18, hc37, hc61, hc80, hc97, hc114, hc126, if_true, if_false, Bool.false_eq_true]
theorem rdepth_calls : ∀ e : E, e.size < 9223372036854775808 → APure prog Γ 16 [e.enc] (i64 (e.depth : Nat)) := E.ind fun k o n s nl l ih hz => rdepth_step k o n s nl l (by simpa [E.size] using hz) fun e he => ih e he (by have := size_mem he; simp only [E.size] at hz; omega)
theorem depth_calls : ∀ e : E, e.size < 9223372036854775808 → APure prog Γ 15 [e.enc] (i64 (e.depth : Nat)) := E.ind fun k o n s nl l ih hz => depth_step k o n s nl l (by simpa [E.size] using hz) fun e he => ih e he (by have := size_mem he; simp only [E.size] at hz; omega)
theorem own_calls : ∀ e : E, e.size ≤ 2000000 → APure prog Γ 12 [e.enc] e.norm.enc := E.ind fun k o n s nl l ih hz => by
  have hl := length_sizeL l
  simp only [E.size] at hz
  exact own_step k o n s nl l (by omega) fun e he => ih e he (by have := size_mem he; omega)
end A
end Go.Proofs.Tryd

