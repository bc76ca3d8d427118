import Derived.Test.YteekpkbmkibacaaDoorLAstP
import Derived.Test.YteekpkbmkibacaaDoorLEvCut
/-! Expressions: whether they may be; walks. -/
namespace Go.Proofs.Tryd
set_option linter.unusedSimpArgs false
set_option linter.unusedVariables false
open Go Go.Proofs.Ev
namespace A
variable {Γ : List (Nat × List AV)}
theorem rs0 {k o n : Int} {s : ByteArray} {c : Int} (h : (k == 0) = true) (ha : (decide (k > 1) && (n != 0)) = false) (hb : (((k != 2) && (k != 6)) && !decide (s = ⟨#[]⟩)) = false) (hc : (((k != 3) && (k != 4)) && (o != 0)) = false) (hd : decide (o < 0) = false) (he : decide (n < 0) = false) : (c == 0) = A.single k o n s c := by
  have h : k = 0 := by simpa using h
  subst h
  unfold A.single
  simp only [bne_iff_ne, Bool.and_eq_false_iff, decide_eq_false_iff_not] at ha hb hc hd he
  simp at ha hb hc hd he
  generalize nameM s = b at *
  rw [Bool.eq_iff_iff]
  by_cases hs : s = ⟨#[]⟩
  · simp [hs] <;> (try cases b) <;> (try simp) <;> omega
  · simp [hs] at hb ⊢ <;> (try cases b) <;> (try simp) <;> omega
theorem rs1 {k o n : Int} {s : ByteArray} {c : Int} (h : (k == 1) = true) (ha : (decide (k > 1) && (n != 0)) = false) (hb : (((k != 2) && (k != 6)) && !decide (s = ⟨#[]⟩)) = false) (hc : (((k != 3) && (k != 4)) && (o != 0)) = false) (hd : decide (o < 0) = false) (he : decide (n < 0) = false) : ((c == 0) && decide (n ≤ 1)) = A.single k o n s c := by
  have h : k = 1 := by simpa using h
  subst h
  unfold A.single
  simp only [bne_iff_ne, Bool.and_eq_false_iff, decide_eq_false_iff_not] at ha hb hc hd he
  simp at ha hb hc hd he
  generalize nameM s = b at *
  rw [Bool.eq_iff_iff]
  by_cases hs : s = ⟨#[]⟩
  · simp [hs] <;> (try cases b) <;> (try simp) <;> omega
  · simp [hs] at hb ⊢ <;> (try cases b) <;> (try simp) <;> omega
theorem rs2 {k o n : Int} {s : ByteArray} {c : Int} (h : (k == 2) = true) (ha : (decide (k > 1) && (n != 0)) = false) (hb : (((k != 2) && (k != 6)) && !decide (s = ⟨#[]⟩)) = false) (hc : (((k != 3) && (k != 4)) && (o != 0)) = false) (hd : decide (o < 0) = false) (he : decide (n < 0) = false) : ((c == 0) && nameM s) = A.single k o n s c := by
  have h : k = 2 := by simpa using h
  subst h
  unfold A.single
  simp only [bne_iff_ne, Bool.and_eq_false_iff, decide_eq_false_iff_not] at ha hb hc hd he
  simp at ha hb hc hd he
  generalize nameM s = b at *
  rw [Bool.eq_iff_iff]
  by_cases hs : s = ⟨#[]⟩
  · simp [hs] <;> (try cases b) <;> (try simp) <;> omega
  · simp [hs] at hb ⊢ <;> (try cases b) <;> (try simp) <;> omega
theorem rs3 {k o n : Int} {s : ByteArray} {c : Int} (h : (k == 3) = true) (ha : (decide (k > 1) && (n != 0)) = false) (hb : (((k != 2) && (k != 6)) && !decide (s = ⟨#[]⟩)) = false) (hc : (((k != 3) && (k != 4)) && (o != 0)) = false) (hd : decide (o < 0) = false) (he : decide (n < 0) = false) : ((c == 1) && decide (o ≤ 2)) = A.single k o n s c := by
  have h : k = 3 := by simpa using h
  subst h
  unfold A.single
  simp only [bne_iff_ne, Bool.and_eq_false_iff, decide_eq_false_iff_not] at ha hb hc hd he
  simp at ha hb hc hd he
  generalize nameM s = b at *
  rw [Bool.eq_iff_iff]
  by_cases hs : s = ⟨#[]⟩
  · simp [hs] <;> (try cases b) <;> (try simp) <;> omega
  · simp [hs] at hb ⊢ <;> (try cases b) <;> (try simp) <;> omega
theorem rs4 {k o n : Int} {s : ByteArray} {c : Int} (h : (k == 4) = true) (ha : (decide (k > 1) && (n != 0)) = false) (hb : (((k != 2) && (k != 6)) && !decide (s = ⟨#[]⟩)) = false) (hc : (((k != 3) && (k != 4)) && (o != 0)) = false) (hd : decide (o < 0) = false) (he : decide (n < 0) = false) : ((c == 2) && decide (o ≤ 15)) = A.single k o n s c := by
  have h : k = 4 := by simpa using h
  subst h
  unfold A.single
  simp only [bne_iff_ne, Bool.and_eq_false_iff, decide_eq_false_iff_not] at ha hb hc hd he
  simp at ha hb hc hd he
  generalize nameM s = b at *
  rw [Bool.eq_iff_iff]
  by_cases hs : s = ⟨#[]⟩
  · simp [hs] <;> (try cases b) <;> (try simp) <;> omega
  · simp [hs] at hb ⊢ <;> (try cases b) <;> (try simp) <;> omega
theorem rs5 {k o n : Int} {s : ByteArray} {c : Int} (h : (k == 5) = true) (ha : (decide (k > 1) && (n != 0)) = false) (hb : (((k != 2) && (k != 6)) && !decide (s = ⟨#[]⟩)) = false) (hc : (((k != 3) && (k != 4)) && (o != 0)) = false) (hd : decide (o < 0) = false) (he : decide (n < 0) = false) : (c == 3) = A.single k o n s c := by
  have h : k = 5 := by simpa using h
  subst h
  unfold A.single
  simp only [bne_iff_ne, Bool.and_eq_false_iff, decide_eq_false_iff_not] at ha hb hc hd he
  simp at ha hb hc hd he
  generalize nameM s = b at *
  rw [Bool.eq_iff_iff]
  by_cases hs : s = ⟨#[]⟩
  · simp [hs] <;> (try cases b) <;> (try simp) <;> omega
  · simp [hs] at hb ⊢ <;> (try cases b) <;> (try simp) <;> omega
theorem rs6 {k o n : Int} {s : ByteArray} {c : Int} (h : (k == 6) = true) (ha : (decide (k > 1) && (n != 0)) = false) (hb : (((k != 2) && (k != 6)) && !decide (s = ⟨#[]⟩)) = false) (hc : (((k != 3) && (k != 4)) && (o != 0)) = false) (hd : decide (o < 0) = false) (he : decide (n < 0) = false) : (decide (c ≤ 1000) && nameM s) = A.single k o n s c := by
  have h : k = 6 := by simpa using h
  subst h
  unfold A.single
  simp only [bne_iff_ne, Bool.and_eq_false_iff, decide_eq_false_iff_not] at ha hb hc hd he
  simp at ha hb hc hd he
  generalize nameM s = b at *
  rw [Bool.eq_iff_iff]
  by_cases hs : s = ⟨#[]⟩
  · simp [hs] <;> (try cases b) <;> (try simp) <;> omega
  · simp [hs] at hb ⊢ <;> (try cases b) <;> (try simp) <;> omega
theorem rs7 {k o n : Int} {s : ByteArray} {c : Int} (h0 : (k == 0) = false) (h1 : (k == 1) = false) (h2 : (k == 2) = false) (h3 : (k == 3) = false) (h4 : (k == 4) = false) (h5 : (k == 5) = false) (h6 : (k == 6) = false) : false = A.single k o n s c := by
  simp only [A.single, h0, h1, h2, h3, h4, h5, h6, Bool.false_eq_true, if_false]
theorem cells_bel (e : E) (n : Nat) : AO.bel n (.cells e.enc.cells) = true := by
  obtain ⟨a, b, c, d, r, h⟩ := enc_cells e
  have := enc_bel n e
  rw [h] at this ⊢
  exact this
set_option maxRecDepth 100000 in
theorem rshape_step (k o n : Int) (s : ByteArray) (nl : Bool) (l : List E) (hl : l.length ≤ maxLen) (hs : s.size ≤ 1000000000) (ih : ∀ e ∈ l, APure prog Γ 51 [e.enc] (bool e.shape)) : APure prog Γ 51 [(E.mk k o n s nl l).enc] (bool (E.mk k o n s nl l).shape) := by
  refine APure.of func51 rfl fun σ => ?_
  simp only [ntmps51, List.length_cons, List.length_nil, Nat.reduceAdd, Nat.reduceSub, List.replicate_succ, List.replicate_zero, List.cons_append, List.nil_append]
  rw [E.enc_mk]
  refine AW.regl false [1, 2] (by rfl) fun K1 hK1 => ?_ -- region 0
  simp only [go_sem, Nat.reduceAdd, Nat.reduceEqDiff, Nat.reduceLeDiff, true_and, List.length_map, len_row, one_row, E.enc_mk, ba_beqL]
  refine hK1 _ _ ?_; try clear hK1 K1
  conv => enter [5]; simp only [setL_cons, setL_nil, List.set_cons_zero, List.set_cons_succ]
  refine AW.seq_k fun K2 hK2 => ?_
  refine AW.regl false [3] (by rfl) fun K3 hK3 => ?_ -- region 1
  simp only [go_sem, Nat.reduceAdd, Nat.reduceEqDiff, Nat.reduceLeDiff, true_and, List.length_map, len_row, one_row, E.enc_mk, ba_beqL]
  refine hK3 _ _ ?_; try clear hK3 K3
  conv => enter [5]; simp only [setL_cons, setL_nil, List.set_cons_zero, List.set_cons_succ]
  refine AW.block ?_
  refine AW.loop_wk (α := Nat) (fun i => [.any, (.ref σ.length 0), .any, (.val (.int .i64 ((i : Nat) : Int))), .any, .any, .any, .any, .any, .any, .any, .any, .any, .any, .any, .any, .any, .any, .any, .any, .any, .any, .any, .any, .any, .any, .any, .any, .any, .any, .any, .any, .any, .any, .any, .any, .any, .any, .any, .any, .any, .any, .any, .any, .any, .any, .any, .any, .any, .any, .any, .any, .any, .any, .any, .any, .any, .any, .any, .any, .any, .any, .any, .any, .any, .any, .any, .any, .any, .any, .any, .any, .any, .any, .any, .any, .any, .any, .any, .any, .any, .any, .any, .any, .any, .any, .any, .any, .any, .any, .any, .any, .any, .any, .any, .any, .any, .any, .any, .any, .any, .any, .any, .any, .any, .any, .any, .any, .any, .any, .any, .any, .any, .any, .any, .any, .any, .any, .any, .any, .any, .any, .any, .any, .any]) (fun i => σ ++ [.cells [.val (.int .i64 k), .val (.int .i64 o), .val (.int .i64 n), .val (.string s), rowAV 5 nl (l.map E.enc)]]) (fun i => l.length - i) (fun i => i ≤ l.length ∧ (l.take i).all E.shape = true) 0 ?_ ?_
  · exact ⟨⟨Nat.zero_le _, rfl⟩, by simp [Wk], rfl⟩
  · rintro i ⟨hi, hit⟩
    refine AW.seq_k fun K4 hK4 => ?_
    refine AW.regl false [9] (by rfl) fun K5 hK5 => ?_ -- region 2
    simp only [go_sem, Nat.reduceAdd, Nat.reduceEqDiff, Nat.reduceLeDiff, true_and, List.length_map, len_row, one_row, E.enc_mk, ba_beqL]
    refine hK5 _ _ ?_; try clear hK5 K5
    conv => enter [5]; simp only [setL_cons, setL_nil, List.set_cons_zero, List.set_cons_succ]
    refine AW.cond rfl (fun hc9 => ?_) (fun hc9 => ?_)
    · skip
      have hi1 : i < l.length := by simpa using hc9
      have hx : (l.map E.enc)[i]? = some (E.enc (l[i])) := by rw [List.getElem?_map, List.getElem?_eq_getElem hi1]; rfl
      refine AW.skip ?_
      refine hK4 _ _ ?_; try clear hK4 K4
      refine AW.seq_k fun K6 hK6 => ?_
      refine AW.block ?_
      refine AW.regl false [18] (by rfl) fun K7 hK7 => ?_ -- region 4
      simp only [go_sem, Nat.reduceAdd, Nat.reduceEqDiff, Nat.reduceLeDiff, true_and, List.length_map, len_row, one_row, E.enc_mk, ba_beqL, at_row hx, enc_get43]
      refine sC.of en51 ((ih _ (mem_at hi1)).on _).here (by rfl) ?_
      simp only [go_sem, Nat.reduceAdd, Nat.reduceEqDiff, Nat.reduceLeDiff, true_and, List.length_map, len_row, one_row, E.enc_mk, ba_beqL, at_row hx, enc_get43]
      refine hK7 _ _ ?_; try clear hK7 K7
      conv => enter [5]; simp only [setL_cons, setL_nil, List.set_cons_zero, List.set_cons_succ]
      refine AW.cond rfl (fun hc18 => ?_) (fun hc18 => ?_)
      · skip
        refine AW.regl false [2] (by rfl) fun K8 hK8 => ?_ -- region 5
        simp only [go_sem, Nat.reduceAdd, Nat.reduceEqDiff, Nat.reduceLeDiff, true_and, List.length_map, len_row, one_row, E.enc_mk, ba_beqL]
        refine hK8 _ _ ?_; try clear hK8 K8
        conv => enter [5]; simp only [setL_cons, setL_nil, List.set_cons_zero, List.set_cons_succ]
        refine AW.ret ⟨.inr rfl, _, rfl, by simp, ?_⟩ -- return 1
        refine frzB ?_
        simp only [E.shape, shapeL_all, all_at hi1 (show (l[i]).shape = false by simpa using hc18), Bool.false_and]
      · skip
        refine AW.skip ?_
        refine hK6 _ _ ?_; try clear hK6 K6
        refine AW.lastl false [3] (by rfl) fun K hK => ?_ -- region 3
        simp only [go_sem, Nat.reduceAdd, Nat.reduceEqDiff, Nat.reduceLeDiff, true_and, List.length_map, len_row, one_row, E.enc_mk, ba_beqL]
        refine hK _ _ fun env' hw => ?_
        simp only [setL_cons, setL_nil, List.set_cons_zero, List.set_cons_succ] at hw
        refine ⟨i + 1, by omega, ⟨by omega, all_step hi1 hit (by simpa using hc18)⟩, ?_, rfl⟩
        refine hw.trans ?_
        simp [Wk, wrap_succ hi1 hl]
        try omega
    · skip
      have hi1 : i = l.length := by
        have : ¬ i < l.length := by simpa using hc9
        omega
      have hall : l.all E.shape = true := all_end (by omega) hit
      refine AW.exit ?_
      refine hK2 _ _ ?_; try clear hK2 K2
      refine AW.seq_k fun K9 hK9 => ?_
      refine AW.regcuts fun K10 hK10 => ?_ -- region 6
      refine AOps.cut false 8 26 (.val (.bool ((decide (k > 1)) && (n != 0)))) (by rfl) ?_ ?_
      · skip
        cases h21 : ((decide (k > 1)))
        · skip
          simp only [go_sem, Nat.reduceAdd, Nat.reduceEqDiff, Nat.reduceLeDiff, true_and, List.length_map, len_row, one_row, E.enc_mk, ba_beqL, rtoo, List.take_succ_cons, List.take_zero, h21]
          try simp [upd_at, h21, List.length_map, len_row, one_row, E.enc_mk, ba_beqL, rtoo]
        · skip
          simp only [go_sem, Nat.reduceAdd, Nat.reduceEqDiff, Nat.reduceLeDiff, true_and, List.length_map, len_row, one_row, E.enc_mk, ba_beqL, rtoo, List.take_succ_cons, List.take_zero, h21]
          try simp [upd_at, h21, List.length_map, len_row, one_row, E.enc_mk, ba_beqL, rtoo]
      simp only [List.drop_succ_cons, List.drop_zero, List.set_cons_zero, List.set_cons_succ]
      refine AOps.cut false 15 41 (.val (.bool (((decide (k > 1)) && (n != 0)) || (((k != 2) && (k != 6)) && (!decide (s = ⟨#[]⟩)))))) (by rfl) ?_ ?_
      · skip
        cases h26 : (((decide (k > 1)) && (n != 0)))
        · skip
          cases h30 : ((k != 2))
          · skip
            simp only [go_sem, Nat.reduceAdd, Nat.reduceEqDiff, Nat.reduceLeDiff, true_and, List.length_map, len_row, one_row, E.enc_mk, ba_beqL, rtoo, List.take_succ_cons, List.take_zero, h26, h30]
            try simp [upd_at, h26, h30, List.length_map, len_row, one_row, E.enc_mk, ba_beqL, rtoo]
          · skip
            cases h34 : ((k != 6))
            · skip
              simp only [go_sem, Nat.reduceAdd, Nat.reduceEqDiff, Nat.reduceLeDiff, true_and, List.length_map, len_row, one_row, E.enc_mk, ba_beqL, rtoo, List.take_succ_cons, List.take_zero, h26, h30, h34]
              try simp [upd_at, h26, h30, h34, List.length_map, len_row, one_row, E.enc_mk, ba_beqL, rtoo]
            · skip
              simp only [go_sem, Nat.reduceAdd, Nat.reduceEqDiff, Nat.reduceLeDiff, true_and, List.length_map, len_row, one_row, E.enc_mk, ba_beqL, rtoo, List.take_succ_cons, List.take_zero, h26, h30, h34]
              try simp [upd_at, h26, h30, h34, List.length_map, len_row, one_row, E.enc_mk, ba_beqL, rtoo]
        · skip
          simp only [go_sem, Nat.reduceAdd, Nat.reduceEqDiff, Nat.reduceLeDiff, true_and, List.length_map, len_row, one_row, E.enc_mk, ba_beqL, rtoo, List.take_succ_cons, List.take_zero, h26]
          try simp [upd_at, h26, List.length_map, len_row, one_row, E.enc_mk, ba_beqL, rtoo]
      simp only [List.drop_succ_cons, List.drop_zero, List.set_cons_zero, List.set_cons_succ]
      refine AOps.cut false 15 56 (.val (.bool ((((decide (k > 1)) && (n != 0)) || (((k != 2) && (k != 6)) && (!decide (s = ⟨#[]⟩)))) || (((k != 3) && (k != 4)) && (o != 0))))) (by rfl) ?_ ?_
      · skip
        cases h41 : ((((decide (k > 1)) && (n != 0)) || (((k != 2) && (k != 6)) && (!decide (s = ⟨#[]⟩)))))
        · skip
          cases h45 : ((k != 3))
          · skip
            simp only [go_sem, Nat.reduceAdd, Nat.reduceEqDiff, Nat.reduceLeDiff, true_and, List.length_map, len_row, one_row, E.enc_mk, ba_beqL, rtoo, List.take_succ_cons, List.take_zero, h41, h45]
            try simp [upd_at, h41, h45, List.length_map, len_row, one_row, E.enc_mk, ba_beqL, rtoo]
          · skip
            cases h49 : ((k != 4))
            · skip
              simp only [go_sem, Nat.reduceAdd, Nat.reduceEqDiff, Nat.reduceLeDiff, true_and, List.length_map, len_row, one_row, E.enc_mk, ba_beqL, rtoo, List.take_succ_cons, List.take_zero, h41, h45, h49]
              try simp [upd_at, h41, h45, h49, List.length_map, len_row, one_row, E.enc_mk, ba_beqL, rtoo]
            · skip
              simp only [go_sem, Nat.reduceAdd, Nat.reduceEqDiff, Nat.reduceLeDiff, true_and, List.length_map, len_row, one_row, E.enc_mk, ba_beqL, rtoo, List.take_succ_cons, List.take_zero, h41, h45, h49]
              try simp [upd_at, h41, h45, h49, List.length_map, len_row, one_row, E.enc_mk, ba_beqL, rtoo]
        · skip
          simp only [go_sem, Nat.reduceAdd, Nat.reduceEqDiff, Nat.reduceLeDiff, true_and, List.length_map, len_row, one_row, E.enc_mk, ba_beqL, rtoo, List.take_succ_cons, List.take_zero, h41]
          try simp [upd_at, h41, List.length_map, len_row, one_row, E.enc_mk, ba_beqL, rtoo]
      simp only [List.drop_succ_cons, List.drop_zero, List.set_cons_zero, List.set_cons_succ]
      refine AOps.cut false 5 61 (.val (.bool (((((decide (k > 1)) && (n != 0)) || (((k != 2) && (k != 6)) && (!decide (s = ⟨#[]⟩)))) || (((k != 3) && (k != 4)) && (o != 0))) || (decide (o < 0))))) (by rfl) ?_ ?_
      · skip
        cases h56 : (((((decide (k > 1)) && (n != 0)) || (((k != 2) && (k != 6)) && (!decide (s = ⟨#[]⟩)))) || (((k != 3) && (k != 4)) && (o != 0))))
        · skip
          simp only [go_sem, Nat.reduceAdd, Nat.reduceEqDiff, Nat.reduceLeDiff, true_and, List.length_map, len_row, one_row, E.enc_mk, ba_beqL, rtoo, List.take_succ_cons, List.take_zero, h56]
          try simp [upd_at, h56, List.length_map, len_row, one_row, E.enc_mk, ba_beqL, rtoo]
        · skip
          simp only [go_sem, Nat.reduceAdd, Nat.reduceEqDiff, Nat.reduceLeDiff, true_and, List.length_map, len_row, one_row, E.enc_mk, ba_beqL, rtoo, List.take_succ_cons, List.take_zero, h56]
          try simp [upd_at, h56, List.length_map, len_row, one_row, E.enc_mk, ba_beqL, rtoo]
      simp only [List.drop_succ_cons, List.drop_zero, List.set_cons_zero, List.set_cons_succ]
      refine AOps.cut false 5 66 (.val (.bool (rtoo k o n s))) (by rfl) ?_ ?_
      · skip
        cases h61 : ((((((decide (k > 1)) && (n != 0)) || (((k != 2) && (k != 6)) && (!decide (s = ⟨#[]⟩)))) || (((k != 3) && (k != 4)) && (o != 0))) || (decide (o < 0))))
        · skip
          simp only [go_sem, Nat.reduceAdd, Nat.reduceEqDiff, Nat.reduceLeDiff, true_and, List.length_map, len_row, one_row, E.enc_mk, ba_beqL, rtoo, List.take_succ_cons, List.take_zero, h61]
          try simp [upd_at, h61, List.length_map, len_row, one_row, E.enc_mk, ba_beqL, rtoo]
        · skip
          simp only [go_sem, Nat.reduceAdd, Nat.reduceEqDiff, Nat.reduceLeDiff, true_and, List.length_map, len_row, one_row, E.enc_mk, ba_beqL, rtoo, List.take_succ_cons, List.take_zero, h61]
          try simp [upd_at, h61, List.length_map, len_row, one_row, E.enc_mk, ba_beqL, rtoo]
      simp only [List.drop_succ_cons, List.drop_zero, List.set_cons_zero, List.set_cons_succ]
      refine AOps.nil (hK10 _ _ ?_); try clear hK10 K10
      refine AW.cond rfl (fun hc66 => ?_) (fun hc66 => ?_)
      · skip
        refine AW.regl false [2] (by rfl) fun K11 hK11 => ?_ -- region 7
        simp only [go_sem, Nat.reduceAdd, Nat.reduceEqDiff, Nat.reduceLeDiff, true_and, List.length_map, len_row, one_row, E.enc_mk, ba_beqL]
        refine hK11 _ _ ?_; try clear hK11 K11
        conv => enter [5]; simp only [setL_cons, setL_nil, List.set_cons_zero, List.set_cons_succ]
        refine AW.ret ⟨.inr rfl, _, rfl, by simp, ?_⟩ -- return 2
        refine frzB ?_
        simp only [E.shape, single_too hc66, Bool.and_false]
      · skip
        unfold rtoo at hc66
        simp only [Bool.or_eq_false_iff] at hc66
        obtain ⟨⟨⟨⟨ha, hb⟩, hc⟩, hd⟩, he⟩ := hc66
        refine AW.skip ?_
        refine hK9 _ _ ?_; try clear hK9 K9
        refine AW.regl false [4] (by rfl) fun K12 hK12 => ?_ -- region 8
        simp only [go_sem, Nat.reduceAdd, Nat.reduceEqDiff, Nat.reduceLeDiff, true_and, List.length_map, len_row, one_row, E.enc_mk, ba_beqL]
        refine hK12 _ _ ?_; try clear hK12 K12
        conv => enter [5]; simp only [setL_cons, setL_nil, List.set_cons_zero, List.set_cons_succ]
        refine AW.seq_k fun K13 hK13 => ?_
        refine AW.regl false [71] (by rfl) fun K14 hK14 => ?_ -- region 9
        simp only [go_sem, Nat.reduceAdd, Nat.reduceEqDiff, Nat.reduceLeDiff, true_and, List.length_map, len_row, one_row, E.enc_mk, ba_beqL]
        refine hK14 _ _ ?_; try clear hK14 K14
        conv => enter [5]; simp only [setL_cons, setL_nil, List.set_cons_zero, List.set_cons_succ]
        refine AW.block ?_
        refine AW.regl false [72] (by rfl) fun K15 hK15 => ?_ -- region 10
        simp only [go_sem, Nat.reduceAdd, Nat.reduceEqDiff, Nat.reduceLeDiff, true_and, List.length_map, len_row, one_row, E.enc_mk, ba_beqL]
        refine hK15 _ _ ?_; try clear hK15 K15
        conv => enter [5]; simp only [setL_cons, setL_nil, List.set_cons_zero, List.set_cons_succ]
        refine AW.cond rfl (fun hc72 => ?_) (fun hc72 => ?_)
        · skip
          refine AW.regl false [2] (by rfl) fun K16 hK16 => ?_ -- region 11
          simp only [go_sem, Nat.reduceAdd, Nat.reduceEqDiff, Nat.reduceLeDiff, true_and, List.length_map, len_row, one_row, E.enc_mk, ba_beqL]
          refine hK16 _ _ ?_; try clear hK16 K16
          conv => enter [5]; simp only [setL_cons, setL_nil, List.set_cons_zero, List.set_cons_succ]
          refine AW.ret ⟨.inr rfl, _, rfl, by simp, ?_⟩ -- return 3
          refine frzB ?_
          simp only [E.shape, shapeL_all, hall, Bool.true_and]
          exact rs0 (by assumption) ha hb hc hd he
        · skip
          refine AW.regl false [76] (by rfl) fun K17 hK17 => ?_ -- region 12
          simp only [go_sem, Nat.reduceAdd, Nat.reduceEqDiff, Nat.reduceLeDiff, true_and, List.length_map, len_row, one_row, E.enc_mk, ba_beqL]
          refine hK17 _ _ ?_; try clear hK17 K17
          conv => enter [5]; simp only [setL_cons, setL_nil, List.set_cons_zero, List.set_cons_succ]
          refine AW.cond rfl (fun hc76 => ?_) (fun hc76 => ?_)
          · skip
            refine AW.regtf false 2 (.val (.bool ((((l.length : Nat) : Int) == 0) && (decide (n ≤ 1))))) (by rfl) ?_ ?_ -- region 13
            · skip
              cases h79 : ((((l.length : Nat) : Int) == 0))
              · skip
                simp only [go_sem, Nat.reduceAdd, Nat.reduceEqDiff, Nat.reduceLeDiff, true_and, List.length_map, len_row, one_row, E.enc_mk, ba_beqL, h79]
                try simp [upd_at, h79, List.length_map, len_row, one_row, E.enc_mk, ba_beqL]
              · skip
                simp only [go_sem, Nat.reduceAdd, Nat.reduceEqDiff, Nat.reduceLeDiff, true_and, List.length_map, len_row, one_row, E.enc_mk, ba_beqL, h79]
                try simp [upd_at, h79, List.length_map, len_row, one_row, E.enc_mk, ba_beqL]
            conv => enter [5]; simp only [List.set_cons_zero, List.set_cons_succ]
            refine AW.ret ⟨.inr rfl, _, rfl, by simp, ?_⟩ -- return 4
            refine frzB ?_
            simp only [E.shape, shapeL_all, hall, Bool.true_and]
            exact rs1 (by assumption) ha hb hc hd he
          · skip
            refine AW.regl false [85] (by rfl) fun K19 hK19 => ?_ -- region 14
            simp only [go_sem, Nat.reduceAdd, Nat.reduceEqDiff, Nat.reduceLeDiff, true_and, List.length_map, len_row, one_row, E.enc_mk, ba_beqL]
            refine hK19 _ _ ?_; try clear hK19 K19
            conv => enter [5]; simp only [setL_cons, setL_nil, List.set_cons_zero, List.set_cons_succ]
            refine AW.cond rfl (fun hc85 => ?_) (fun hc85 => ?_)
            · skip
              refine AW.regtf false 2 (.val (.bool ((((l.length : Nat) : Int) == 0) && (nameM s)))) (by rfl) ?_ ?_ -- region 15
              · skip
                cases h88 : ((((l.length : Nat) : Int) == 0))
                · skip
                  simp only [go_sem, Nat.reduceAdd, Nat.reduceEqDiff, Nat.reduceLeDiff, true_and, List.length_map, len_row, one_row, E.enc_mk, ba_beqL, h88]
                  try simp [upd_at, h88, List.length_map, len_row, one_row, E.enc_mk, ba_beqL]
                · skip
                  simp only [go_sem, Nat.reduceAdd, Nat.reduceEqDiff, Nat.reduceLeDiff, true_and, List.length_map, len_row, one_row, E.enc_mk, ba_beqL, h88]
                  refine sC.of en44 ((rname_calls s (by omega)).on _).here (by rfl) ?_
                  simp only [go_sem, Nat.reduceAdd, Nat.reduceEqDiff, Nat.reduceLeDiff, true_and, List.length_map, len_row, one_row, E.enc_mk, ba_beqL, h88]
                  try simp [upd_at, h88, List.length_map, len_row, one_row, E.enc_mk, ba_beqL]
              conv => enter [5]; simp only [List.set_cons_zero, List.set_cons_succ]
              refine AW.ret ⟨.inr rfl, _, rfl, by simp, ?_⟩ -- return 5
              refine frzB ?_
              simp only [E.shape, shapeL_all, hall, Bool.true_and]
              exact rs2 (by assumption) ha hb hc hd he
            · skip
              refine AW.regl false [94] (by rfl) fun K21 hK21 => ?_ -- region 16
              simp only [go_sem, Nat.reduceAdd, Nat.reduceEqDiff, Nat.reduceLeDiff, true_and, List.length_map, len_row, one_row, E.enc_mk, ba_beqL]
              refine hK21 _ _ ?_; try clear hK21 K21
              conv => enter [5]; simp only [setL_cons, setL_nil, List.set_cons_zero, List.set_cons_succ]
              refine AW.cond rfl (fun hc94 => ?_) (fun hc94 => ?_)
              · skip
                refine AW.regtf false 2 (.val (.bool ((((l.length : Nat) : Int) == 1) && (decide (o ≤ 2))))) (by rfl) ?_ ?_ -- region 17
                · skip
                  cases h97 : ((((l.length : Nat) : Int) == 1))
                  · skip
                    simp only [go_sem, Nat.reduceAdd, Nat.reduceEqDiff, Nat.reduceLeDiff, true_and, List.length_map, len_row, one_row, E.enc_mk, ba_beqL, h97]
                    try simp [upd_at, h97, List.length_map, len_row, one_row, E.enc_mk, ba_beqL]
                  · skip
                    simp only [go_sem, Nat.reduceAdd, Nat.reduceEqDiff, Nat.reduceLeDiff, true_and, List.length_map, len_row, one_row, E.enc_mk, ba_beqL, h97]
                    try simp [upd_at, h97, List.length_map, len_row, one_row, E.enc_mk, ba_beqL]
                conv => enter [5]; simp only [List.set_cons_zero, List.set_cons_succ]
                refine AW.ret ⟨.inr rfl, _, rfl, by simp, ?_⟩ -- return 6
                refine frzB ?_
                simp only [E.shape, shapeL_all, hall, Bool.true_and]
                exact rs3 (by assumption) ha hb hc hd he
              · skip
                refine AW.regl false [103] (by rfl) fun K23 hK23 => ?_ -- region 18
                simp only [go_sem, Nat.reduceAdd, Nat.reduceEqDiff, Nat.reduceLeDiff, true_and, List.length_map, len_row, one_row, E.enc_mk, ba_beqL]
                refine hK23 _ _ ?_; try clear hK23 K23
                conv => enter [5]; simp only [setL_cons, setL_nil, List.set_cons_zero, List.set_cons_succ]
                refine AW.cond rfl (fun hc103 => ?_) (fun hc103 => ?_)
                · skip
                  refine AW.regtf false 2 (.val (.bool ((((l.length : Nat) : Int) == 2) && (decide (o ≤ 15))))) (by rfl) ?_ ?_ -- region 19
                  · skip
                    cases h106 : ((((l.length : Nat) : Int) == 2))
                    · skip
                      simp only [go_sem, Nat.reduceAdd, Nat.reduceEqDiff, Nat.reduceLeDiff, true_and, List.length_map, len_row, one_row, E.enc_mk, ba_beqL, h106]
                      try simp [upd_at, h106, List.length_map, len_row, one_row, E.enc_mk, ba_beqL]
                    · skip
                      simp only [go_sem, Nat.reduceAdd, Nat.reduceEqDiff, Nat.reduceLeDiff, true_and, List.length_map, len_row, one_row, E.enc_mk, ba_beqL, h106]
                      try simp [upd_at, h106, List.length_map, len_row, one_row, E.enc_mk, ba_beqL]
                  conv => enter [5]; simp only [List.set_cons_zero, List.set_cons_succ]
                  refine AW.ret ⟨.inr rfl, _, rfl, by simp, ?_⟩ -- return 7
                  refine frzB ?_
                  simp only [E.shape, shapeL_all, hall, Bool.true_and]
                  exact rs4 (by assumption) ha hb hc hd he
                · skip
                  refine AW.regl false [112] (by rfl) fun K25 hK25 => ?_ -- region 20
                  simp only [go_sem, Nat.reduceAdd, Nat.reduceEqDiff, Nat.reduceLeDiff, true_and, List.length_map, len_row, one_row, E.enc_mk, ba_beqL]
                  refine hK25 _ _ ?_; try clear hK25 K25
                  conv => enter [5]; simp only [setL_cons, setL_nil, List.set_cons_zero, List.set_cons_succ]
                  refine AW.cond rfl (fun hc112 => ?_) (fun hc112 => ?_)
                  · skip
                    refine AW.regl false [2] (by rfl) fun K26 hK26 => ?_ -- region 21
                    simp only [go_sem, Nat.reduceAdd, Nat.reduceEqDiff, Nat.reduceLeDiff, true_and, List.length_map, len_row, one_row, E.enc_mk, ba_beqL]
                    refine hK26 _ _ ?_; try clear hK26 K26
                    conv => enter [5]; simp only [setL_cons, setL_nil, List.set_cons_zero, List.set_cons_succ]
                    refine AW.ret ⟨.inr rfl, _, rfl, by simp, ?_⟩ -- return 8
                    refine frzB ?_
                    simp only [E.shape, shapeL_all, hall, Bool.true_and]
                    exact rs5 (by assumption) ha hb hc hd he
                  · skip
                    refine AW.regl false [116] (by rfl) fun K27 hK27 => ?_ -- region 22
                    simp only [go_sem, Nat.reduceAdd, Nat.reduceEqDiff, Nat.reduceLeDiff, true_and, List.length_map, len_row, one_row, E.enc_mk, ba_beqL]
                    refine hK27 _ _ ?_; try clear hK27 K27
                    conv => enter [5]; simp only [setL_cons, setL_nil, List.set_cons_zero, List.set_cons_succ]
                    refine AW.cond rfl (fun hc116 => ?_) (fun hc116 => ?_)
                    · skip
                      refine AW.regtf false 2 (.val (.bool ((decide (((l.length : Nat) : Int) ≤ 1000)) && (nameM s)))) (by rfl) ?_ ?_ -- region 23
                      · skip
                        cases h119 : ((decide (((l.length : Nat) : Int) ≤ 1000)))
                        · skip
                          simp only [go_sem, Nat.reduceAdd, Nat.reduceEqDiff, Nat.reduceLeDiff, true_and, List.length_map, len_row, one_row, E.enc_mk, ba_beqL, h119]
                          try simp [upd_at, h119, List.length_map, len_row, one_row, E.enc_mk, ba_beqL]
                        · skip
                          simp only [go_sem, Nat.reduceAdd, Nat.reduceEqDiff, Nat.reduceLeDiff, true_and, List.length_map, len_row, one_row, E.enc_mk, ba_beqL, h119]
                          refine sC.of en44 ((rname_calls s (by omega)).on _).here (by rfl) ?_
                          simp only [go_sem, Nat.reduceAdd, Nat.reduceEqDiff, Nat.reduceLeDiff, true_and, List.length_map, len_row, one_row, E.enc_mk, ba_beqL, h119]
                          try simp [upd_at, h119, List.length_map, len_row, one_row, E.enc_mk, ba_beqL]
                      conv => enter [5]; simp only [List.set_cons_zero, List.set_cons_succ]
                      refine AW.ret ⟨.inr rfl, _, rfl, by simp, ?_⟩ -- return 9
                      refine frzB ?_
                      simp only [E.shape, shapeL_all, hall, Bool.true_and]
                      exact rs6 (by assumption) ha hb hc hd he
                    · skip
                      refine AW.skip ?_
                      refine hK13 _ _ ?_; try clear hK13 K13
                      refine AW.regl false [2] (by rfl) fun K29 hK29 => ?_ -- region 24
                      simp only [go_sem, Nat.reduceAdd, Nat.reduceEqDiff, Nat.reduceLeDiff, true_and, List.length_map, len_row, one_row, E.enc_mk, ba_beqL]
                      refine hK29 _ _ ?_; try clear hK29 K29
                      conv => enter [5]; simp only [setL_cons, setL_nil, List.set_cons_zero, List.set_cons_succ]
                      refine AW.ret ⟨.inr rfl, _, rfl, by simp, ?_⟩ -- return 10
                      refine frzB ?_
                      simp only [E.shape, shapeL_all, hall, Bool.true_and]
                      exact rs7 (by assumption) (by assumption) (by assumption) (by assumption) (by assumption) (by assumption) (by assumption)

theorem fits_name {k o n : Int} {s : ByteArray} {nl : Bool} {l : List E} (h : (E.mk k o n s nl l).fits) : s.size ≤ 1000000000 := h (.mk k o n s nl l) (by simp [E.pre])
theorem preL_mem {e d : E} : ∀ {l : List E}, e ∈ l → d ∈ e.pre → d ∈ preL l
  | a :: l, he, hd => by
    simp only [preL, List.mem_append]
    rcases List.mem_cons.1 he with rfl | he
    · exact .inl hd
    · exact .inr (preL_mem he hd)
theorem fits_kid {k o n : Int} {s : ByteArray} {nl : Bool} {l : List E} (h : (E.mk k o n s nl l).fits) {e : E} (he : e ∈ l) : e.fits := fun d hd => h d (by
  simp only [E.pre]
  exact List.mem_cons_of_mem _ (preL_mem he hd))
theorem rshape_calls : ∀ e : E, e.size < 9223372036854775808 → e.fits → APure prog Γ 51 [e.enc] (bool e.shape) := E.ind fun k o n s nl l ih hz hf => by
  have hl := length_sizeL l
  simp only [E.size] at hz
  exact rshape_step k o n s nl l (by rw [maxLen_eq]; omega) (fits_name hf) fun e he => ih e he (by have := size_mem he; omega) (fits_kid hf he)
set_option maxRecDepth 100000 in
theorem right_expr_calls (e : E) (hsz : e.size < 9223372036854775808) (hft : e.fits) : APure prog Γ 14 [e.enc] (bool (e.shape && decide ((e.depth : Int) ≤ 200))) := by
  refine APure.of func14 rfl fun σ => ?_
  simp only [ntmps14, List.length_cons, List.length_nil, Nat.reduceAdd, Nat.reduceSub, List.replicate_succ, List.replicate_zero, List.cons_append, List.nil_append]
  refine AW.regl false [1, 2] (by rfl) fun K1 hK1 => ?_ -- region 0
  simp only [go_sem, Nat.reduceAdd, Nat.reduceEqDiff, Nat.reduceLeDiff, true_and, enc_one, enc_len, enc_get43, enc_get47, List.drop_zero]
  refine hK1 _ _ ?_; try clear hK1 K1
  conv => enter [5]; simp only [setL_cons, setL_nil, List.set_cons_zero, List.set_cons_succ]
  refine AW.regtf false 2 (.val (.bool (e.shape && (decide (((e.depth : Nat) : Int) ≤ 200))))) (by rfl) ?_ ?_ -- region 1
  · skip
    cases h4 : (e.shape)
    · skip
      simp only [go_sem, Nat.reduceAdd, Nat.reduceEqDiff, Nat.reduceLeDiff, true_and, enc_one, enc_len, enc_get43, enc_get47, List.drop_zero, h4]
      refine sC.of en51 ((rshape_calls e hsz hft).on _).here (by rfl) ?_
      simp only [go_sem, Nat.reduceAdd, Nat.reduceEqDiff, Nat.reduceLeDiff, true_and, enc_one, enc_len, enc_get43, enc_get47, List.drop_zero, h4]
      try simp [upd_at, h4, enc_one, enc_len, enc_get43, enc_get47, List.drop_zero]
    · skip
      simp only [go_sem, Nat.reduceAdd, Nat.reduceEqDiff, Nat.reduceLeDiff, true_and, enc_one, enc_len, enc_get43, enc_get47, List.drop_zero, h4]
      refine sC.of en51 ((rshape_calls e hsz hft).on _).here (by rfl) ?_
      simp only [go_sem, Nat.reduceAdd, Nat.reduceEqDiff, Nat.reduceLeDiff, true_and, enc_one, enc_len, enc_get43, enc_get47, List.drop_zero, h4]
      refine sC.of en16 ((rdepth_calls e hsz).on _).here (by rfl) ?_
      simp only [go_sem, Nat.reduceAdd, Nat.reduceEqDiff, Nat.reduceLeDiff, true_and, enc_one, enc_len, enc_get43, enc_get47, List.drop_zero, h4]
      try simp [upd_at, h4, enc_one, enc_len, enc_get43, enc_get47, List.drop_zero]
  conv => enter [5]; simp only [List.set_cons_zero, List.set_cons_succ]
  refine AW.ret ⟨.inr rfl, _, rfl, by simp, ?_⟩ -- return 1
  exact .keep rfl


theorem row_b (n : Nat) (nl : Bool) (l : List E) : (rowAV 5 nl (l.map E.enc)).bel n = true := row_bel (fun e n => enc_bel n e) n 5 nl l
theorem shut_app {S : Nat → Sto} {k j : Nat} {τ : Sto} (hs : Shut (S 0).length (S k)) (hl : ∀ k, (S k).length = (S 0).length) : ∀ (i : Nat) (a : AO), (S k ++ τ)[i]? = some a → (S j ++ τ)[i]? = some a ∨ a.bel (S j ++ τ).length = true := by
  intro i a hi
  rcases Nat.lt_or_ge i (S k).length with h | h
  · rw [List.getElem?_append_left h] at hi
    exact .inr (bel_le (by simp [hl j]) (hs i a hi))
  · rw [List.getElem?_append_right h] at hi
    rw [List.getElem?_append_right (by rw [hl j, ← hl k]; exact h), hl j, ← hl k]
    exact .inl hi

set_option maxRecDepth 100000 in
theorem walk_fn (σ : Sto) (e : E) : ACalls prog Γ 20 [e.enc] σ (fun v σ' => v = .fn 53 [.ref σ.length 0] ∧ σ' = σ ++ [.cells e.enc.cells]) := by
  refine ACalls.of func20 rfl ?_
  simp only [ntmps20, List.length_cons, List.length_nil, Nat.reduceAdd, Nat.reduceSub, List.replicate_succ, List.replicate_zero, List.cons_append, List.nil_append]
  refine AW.regl false [1, 2] (by rfl) fun K1 hK1 => ?_ -- region 0
  simp only [go_sem, Nat.reduceAdd, Nat.reduceEqDiff, Nat.reduceLeDiff, true_and, enc_one, enc_len, enc_get43, enc_get47, List.drop_zero]
  refine hK1 _ _ ?_; try clear hK1 K1
  conv => enter [5]; simp only [setL_cons, setL_nil, List.set_cons_zero, List.set_cons_succ]
  refine AW.regl false [2] (by rfl) fun K2 hK2 => ?_ -- region 1
  simp only [go_sem, Nat.reduceAdd, Nat.reduceEqDiff, Nat.reduceLeDiff, true_and, enc_one, enc_len, enc_get43, enc_get47, List.drop_zero]
  refine hK2 _ _ ?_; try clear hK2 K2
  conv => enter [5]; simp only [setL_cons, setL_nil, List.set_cons_zero, List.set_cons_succ]
  exact AW.ret ⟨.inr rfl, _, rfl, rfl, rfl⟩

set_option maxRecDepth 100000 in
theorem walk_step (k o n : Int) (s : ByteArray) (nl : Bool) (l : List E) (oy : Nat) (S : Nat → Sto) (I : Nat → Prop) (X : Sto → Prop) (hI : I 0) (hS : ∀ j, (S j).length = (S 0).length) (hsh : ∀ j, j ≤ (E.mk k o n s nl l).size → Shut (S 0).length (S j)) (hz : 1 + sizeL l < 9223372036854775808) (hY : AYields prog Γ oy S I X ((E.mk k o n s nl l).pre.map fun d => [d.enc])) (ih : ∀ i (h : i < l.length) (_ : I (1 + sizeL (l.take i))) (τ : Sto), ACalls prog Γ 54 [l[i].enc, .yl oy] (S (1 + sizeL (l.take i)) ++ τ) (fun v σ' => ∃ b, v = bool b ∧ ((b = true ∧ I (1 + sizeL (l.take (i + 1))) ∧ σ' = S (1 + sizeL (l.take (i + 1))) ++ τ) ∨ (b = false ∧ ∃ σx, X σx ∧ σ' = σx ++ τ)))) (ho : oy < (S 0).length) (τ : Sto) : ACalls prog Γ 54 [(E.mk k o n s nl l).enc, .yl oy] (S 0 ++ τ) (fun v σ' => ∃ ρ, (v = bool true ∧ I (1 + sizeL l) ∧ σ' = S (1 + sizeL l) ++ (τ ++ ρ)) ∨ (v = bool false ∧ ∃ σx, X σx ∧ σ' = σx ++ (τ ++ ρ))) := by
  refine ACalls.of func54 rfl ?_
  simp only [ntmps54, List.length_cons, List.length_nil, Nat.reduceAdd, Nat.reduceSub, List.replicate_succ, List.replicate_zero, List.cons_append, List.nil_append]
  have hll : l.length ≤ maxLen := by have := length_sizeL l; rw [maxLen_eq]; omega
  have e0 := E.enc_mk k o n s nl l
  have hy0 := fun τ => hY 0 [(E.mk k o n s nl l).enc] (by simp [E.pre]) hI τ
  rw [e0] at hy0 ⊢
  have hat : ∀ j (x : Sto), (S j ++ (τ ++ x))[(S 0).length + τ.length]? = x[0]? := fun j x => by
    rw [← hS j, app_get, app_get0]
  refine AW.regl false [2, 4] (by rfl) fun K1 hK1 => ?_ -- region 0
  simp only [go_sem, Nat.reduceAdd, Nat.reduceEqDiff, Nat.reduceLeDiff, true_and, List.length_map, len_row, one_row, enc_one, enc_len, hat, List.length_append, List.length_cons, List.length_nil, List.cons_append, List.nil_append, Nat.zero_add]
  refine hK1 _ _ ?_; try clear hK1 K1
  conv => enter [5]; simp only [setL_cons, setL_nil, List.set_cons_zero, List.set_cons_succ]
  refine AW.seq_k fun K2 hK2 => ?_
  refine AW.regl false [10] (by rfl) fun K3 hK3 => ?_ -- region 1
  simp only [go_sem, Nat.reduceAdd, Nat.reduceEqDiff, Nat.reduceLeDiff, true_and, List.length_map, len_row, one_row, enc_one, enc_len, hat, List.length_append, List.length_cons, List.length_nil, List.cons_append, List.nil_append, Nat.zero_add]
  have hy1 := hy0 (τ ++ [.cells [i64 k, i64 o, i64 n, str s, rowAV 5 nl (l.map E.enc)]])
  refine sC.yield (hy1) (fun b9 σ9 hR9 => ?_)
  simp only [go_sem, Nat.reduceAdd, Nat.reduceEqDiff, Nat.reduceLeDiff, true_and, List.length_map, len_row, one_row, enc_one, enc_len, hat, List.length_append, List.length_cons, List.length_nil, List.cons_append, List.nil_append, Nat.zero_add]
  refine hK3 _ _ ?_; try clear hK3 K3
  conv => enter [5]; simp only [setL_cons, setL_nil, List.set_cons_zero, List.set_cons_succ]
  refine AW.cond rfl (fun hc10 => ?_) (fun hc10 => ?_)
  · skip
    have hb : b9 = false := by simpa using hc10
    subst hb
    refine AW.regl false [4] (by rfl) fun K4 hK4 => ?_ -- region 2
    simp only [go_sem, Nat.reduceAdd, Nat.reduceEqDiff, Nat.reduceLeDiff, true_and, List.length_map, len_row, one_row, enc_one, enc_len, hat, List.length_append, List.length_cons, List.length_nil, List.cons_append, List.nil_append, Nat.zero_add]
    refine hK4 _ _ ?_; try clear hK4 K4
    conv => enter [5]; simp only [setL_cons, setL_nil, List.set_cons_zero, List.set_cons_succ]
    rcases hR9 with ⟨h, _⟩ | ⟨_, σx, hx, rfl⟩
    · cases h
    exact AW.ret ⟨.inr rfl, _, rfl, _, .inr ⟨rfl, σx, hx, rfl⟩⟩
  · skip
    have hb : b9 = true := by simpa using hc10
    subst hb
    rcases hR9 with ⟨_, hI1, rfl⟩ | ⟨h, _⟩
    rotate_left
    · cases h
    refine AW.skip ?_
    refine hK2 _ _ ?_; try clear hK2 K2
    refine AW.seq_k fun K5 hK5 => ?_
    refine AW.regl false [12, 13, 14] (by rfl) fun K6 hK6 => ?_ -- region 3
    simp only [go_sem, Nat.reduceAdd, Nat.reduceEqDiff, Nat.reduceLeDiff, true_and, List.length_map, len_row, one_row, enc_one, enc_len, hat, List.length_append, List.length_cons, List.length_nil, List.cons_append, List.nil_append, Nat.zero_add]
    refine hK6 _ _ ?_; try clear hK6 K6
    conv => enter [5]; simp only [setL_cons, setL_nil, List.set_cons_zero, List.set_cons_succ]
    refine AW.block ?_
    refine AW.loop_dr (α := Nat) (fun i => [.any, (.yl oy), .any, .any, .any, .any, .any, .any, .any, .any, .any, .any, (rowAV 5 nl (l.map E.enc)), (.val (.int .i64 ((l.length : Nat) : Int))), (.val (.int .i64 ((i : Nat) : Int))), .any, .any, .any, .any, .any, .any, .any, .any]) (fun i => S (1 + sizeL (l.take i)) ++ (τ ++ [.cells [i64 k, i64 o, i64 n, str s, rowAV 5 nl (l.map E.enc)]])) (fun i => l.length - i) (fun i => i ≤ l.length ∧ I (1 + sizeL (l.take i))) 0 ?_ ?_ ?_
    · exact ⟨⟨Nat.zero_le _, by simpa [sizeL] using hI1⟩, by simp [Wk], by simp [sizeL]⟩
    · refine fun y hy => ⟨?_, ?_⟩
      · have hS1 := hS 1
        simp [belL, AV.bel, row_b, hS (0 + 1)]
        omega
      · exact shut_app (hsh _ (by simp only [E.size]; have := sizeL_le (l := l) y; omega)) hS
    · rintro i ⟨hi, hit⟩
      refine AW.regl false [15] (by rfl) fun K7 hK7 => ?_ -- region 4
      simp only [go_sem, Nat.reduceAdd, Nat.reduceEqDiff, Nat.reduceLeDiff, true_and, List.length_map, len_row, one_row, enc_one, enc_len, hat, List.length_append, List.length_cons, List.length_nil, List.cons_append, List.nil_append, Nat.zero_add]
      refine hK7 _ _ ?_; try clear hK7 K7
      conv => enter [5]; simp only [setL_cons, setL_nil, List.set_cons_zero, List.set_cons_succ]
      refine AW.seq_k fun K8 hK8 => ?_
      refine AW.cond rfl (fun hc15 => ?_) (fun hc15 => ?_)
      · skip
        have hi1 : i < l.length := by simpa using hc15
        have hx : (l.map E.enc)[i]? = some (E.enc (l[i])) := by rw [List.getElem?_map, List.getElem?_eq_getElem hi1]; rfl
        refine AW.skip ?_
        refine hK8 _ _ ?_; try clear hK8 K8
        refine AW.seq_k fun K9 hK9 => ?_
        refine AW.block ?_
        refine AW.regl false [6] (by rfl) fun K10 hK10 => ?_ -- region 5
        simp only [go_sem, Nat.reduceAdd, Nat.reduceEqDiff, Nat.reduceLeDiff, true_and, List.length_map, len_row, one_row, enc_one, enc_len, hat, List.length_append, List.length_cons, List.length_nil, List.cons_append, List.nil_append, Nat.zero_add, at_row hx, enc_get47]
        refine hK10 _ _ ?_; try clear hK10 K10
        conv => enter [5]; simp only [setL_cons, setL_nil, List.set_cons_zero, List.set_cons_succ, upd_none, upd_at]
        refine AW.regl false [21] (by rfl) fun K11 hK11 => ?_ -- region 6
        simp only [go_sem, Nat.reduceAdd, Nat.reduceEqDiff, Nat.reduceLeDiff, true_and, List.length_map, len_row, one_row, enc_one, enc_len, hat, List.length_append, List.length_cons, List.length_nil, List.cons_append, List.nil_append, Nat.zero_add, enc_get47]
        have hq := ih i hi1 hit (τ ++ [.cells [i64 k, i64 o, i64 n, str s, rowAV 5 nl (l.map E.enc)], .cells l[i].enc.cells])
        refine sC.ofR en54 (hq) (fun v' σ20 hR20 => ?_)
        obtain ⟨b20, rfl, hR20⟩ := hR20
        simp only [go_sem, Nat.reduceAdd, Nat.reduceEqDiff, Nat.reduceLeDiff, true_and, List.length_map, len_row, one_row, enc_one, enc_len, hat, List.length_append, List.length_cons, List.length_nil, List.cons_append, List.nil_append, Nat.zero_add, enc_get47]
        refine hK11 _ _ ?_; try clear hK11 K11
        conv => enter [5]; simp only [setL_cons, setL_nil, List.set_cons_zero, List.set_cons_succ]
        refine AW.cond rfl (fun hc21 => ?_) (fun hc21 => ?_)
        · skip
          have hb : b20 = false := by simpa using hc21
          subst hb
          refine AW.regl false [4] (by rfl) fun K12 hK12 => ?_ -- region 7
          simp only [go_sem, Nat.reduceAdd, Nat.reduceEqDiff, Nat.reduceLeDiff, true_and, List.length_map, len_row, one_row, enc_one, enc_len, hat, List.length_append, List.length_cons, List.length_nil, List.cons_append, List.nil_append, Nat.zero_add]
          refine hK12 _ _ ?_; try clear hK12 K12
          conv => enter [5]; simp only [setL_cons, setL_nil, List.set_cons_zero, List.set_cons_succ]
          rcases hR20 with ⟨h, _⟩ | ⟨_, σx, hx, rfl⟩
          · cases h
          exact AW.ret ⟨.inr rfl, _, rfl, [.cells [i64 k, i64 o, i64 n, str s, rowAV 5 nl (l.map E.enc)], .cells l[i].enc.cells], .inr ⟨rfl, σx, hx, rfl⟩⟩
        · skip
          have hb : b20 = true := by simpa using hc21
          subst hb
          rcases hR20 with ⟨_, hI2, rfl⟩ | ⟨h, _⟩
          rotate_left
          · cases h
          refine AW.skip ?_
          refine hK9 _ _ ?_; try clear hK9 K9
          refine AW.lastl false [14] (by rfl) fun K hK => ?_ -- region 8
          simp only [go_sem, Nat.reduceAdd, Nat.reduceEqDiff, Nat.reduceLeDiff, true_and, List.length_map, len_row, one_row, enc_one, enc_len, hat, List.length_append, List.length_cons, List.length_nil, List.cons_append, List.nil_append, Nat.zero_add]
          refine hK _ _ fun env' hw => ?_
          simp only [setL_cons, setL_nil, List.set_cons_zero, List.set_cons_succ] at hw
          refine ⟨i + 1, by omega, ⟨by omega, hI2⟩, ?_, ?_⟩
          · refine hw.trans ?_
            simp [Wk, wrap_succ hi1 hll]
          · simp [List.take_append, List.take_of_length_le, hS]
      · skip
        have hi1 : i = l.length := by
          have : ¬ i < l.length := by simpa using hc15
          omega
        refine AW.exit ?_
        refine hK5 _ _ ?_; try clear hK5 K5
        refine AW.regl false [4] (by rfl) fun K13 hK13 => ?_ -- region 9
        simp only [go_sem, Nat.reduceAdd, Nat.reduceEqDiff, Nat.reduceLeDiff, true_and, List.length_map, len_row, one_row, enc_one, enc_len, hat, List.length_append, List.length_cons, List.length_nil, List.cons_append, List.nil_append, Nat.zero_add]
        refine hK13 _ _ ?_; try clear hK13 K13
        conv => enter [5]; simp only [setL_cons, setL_nil, List.set_cons_zero, List.set_cons_succ]
        rw [hi1, List.take_length]
        rw [hi1, List.take_length] at hit
        exact AW.ret ⟨.inr rfl, _, rfl, _, .inl ⟨rfl, hit, rfl⟩⟩

theorem preL_split {l : List E} {i : Nat} (h : i < l.length) : preL l = preL (l.take i) ++ (l[i].pre ++ preL (l.drop (i + 1))) := by
  have := congrArg preL (List.take_append_drop (i + 1) l)
  rw [preL_append, preL_take h, List.append_assoc] at this
  exact this.symm
theorem walk_calls : ∀ e : E, ∀ (oy : Nat) (S : Nat → Sto) (I : Nat → Prop) (X : Sto → Prop), I 0 → (∀ j, (S j).length = (S 0).length) → (∀ j, j ≤ e.size → Shut (S 0).length (S j)) → (∀ σx, X σx → σx.length = (S 0).length ∧ Shut (S 0).length σx) → e.size < 9223372036854775808 →
    AYields prog Γ oy S I X (e.pre.map fun d => [d.enc]) → oy < (S 0).length → ∀ τ, ACalls prog Γ 54 [e.enc, .yl oy] (S 0 ++ τ) (fun v σ' => ∃ b, v = bool b ∧ ((b = true ∧ I e.size ∧ σ' = S e.size ++ τ) ∨ (b = false ∧ ∃ σx, X σx ∧ σ' = σx ++ τ))) := E.ind fun k o n s nl l ih oy S I X hI hS hsh hX hz hY ho τ => by
  simp only [E.size] at hz
  refine ACalls.trunc (walk_step k o n s nl l oy S I X hI hS hsh hz hY ?_ ho τ) ?_
  · intro i hi hIi τ
    have hle := sizeL_le (l := l) (i + 1)
    have htk := sizeL_take hi
    have h0 : 1 + sizeL (l.take i) + 0 = 1 + sizeL (l.take i) := rfl
    have hp : ((E.mk k o n s nl l :: preL (l.take i)).map fun d => [d.enc]).length = 1 + sizeL (l.take i) := by simp [preL_length]; omega
    have hY' : AYields prog Γ oy (fun j => S (1 + sizeL (l.take i) + j)) (fun j => I (1 + sizeL (l.take i) + j)) X (l[i].pre.map fun d => [d.enc]) := by
      rw [E.pre, preL_split hi, ← List.cons_append, List.map_append, List.map_append] at hY
      have := hY.part
      rwa [hp] at this
    have := ih _ (mem_at hi) oy (fun j => S (1 + sizeL (l.take i) + j)) (fun j => I (1 + sizeL (l.take i) + j)) X hIi (fun j => (hS _).trans (hS _).symm) (fun j hj => by
      rw [hS (_ + 0)]
      exact hsh _ (by simp only [E.size]; omega)) (fun σx hx => by rw [hS (_ + 0)]; exact hX σx hx) (by omega) hY' (by rw [hS]; exact ho) τ
    rw [show 1 + sizeL (l.take (i + 1)) = 1 + sizeL (l.take i) + l[i].size by omega]
    exact this
  · rintro v σ' ⟨ρ, ⟨rfl, hIe, rfl⟩ | ⟨rfl, σx, hx, rfl⟩⟩
    · refine ⟨S (1 + sizeL l) ++ τ, ρ, by rw [List.append_assoc], by simp [hS], shut_app (hsh _ (by simp [E.size])) hS, rfl, true, rfl, .inl ⟨rfl, by rw [E.size]; exact hIe, by rw [E.size]⟩⟩
    · obtain ⟨h1, h2⟩ := hX σx hx
      refine ⟨σx ++ τ, ρ, by rw [List.append_assoc], by simp [h1], fun i a hi => ?_, rfl, false, rfl, .inr ⟨rfl, σx, hx, rfl⟩⟩
      rcases Nat.lt_or_ge i σx.length with h | h
      · rw [List.getElem?_append_left h] at hi
        exact .inr (bel_le (by simp) (h2 i a hi))
      · rw [List.getElem?_append_right h, h1] at hi
        rw [List.getElem?_append_right (by rw [← h1]; exact h)]
        exact .inl hi

theorem walk_iter (e : E) (hz : e.size < 9223372036854775808) (oc : Nat) (σ : Sto) (h1 : σ[oc]? = some (.cells e.enc.cells)) : AIter prog Γ 53 [.ref oc 0] σ (e.pre.map fun d => [d.enc]) := by
  intro o S I X hI hpre ho hl hsh hX hY
  obtain ⟨τ0, hτ0⟩ := hpre
  have hlen : (e.pre.map fun d => [d.enc]).length = e.size := by simp [pre_length]
  rw [hlen] at hsh ⊢
  have hc := walk_calls (Γ := Γ) e o S I X hI hl hsh hX hz hY ho []
  rw [List.append_nil] at hc
  have h1' : (S 0)[oc]? = some (.cells e.enc.cells) := by rw [hτ0]; exact getL h1 _
  refine ACalls.of func53 rfl ?_
  simp only [ntmps53, List.length_cons, List.length_nil, Nat.reduceAdd, Nat.reduceSub, List.replicate_succ, List.replicate_zero, List.cons_append, List.nil_append]
  refine AW.lastl false [] (by rfl) fun K hK => ?_
  simp only [go_sem, h1', List.drop_zero, enc_get47]
  refine sC.ofR en54 hc (fun v' σ' hR => ?_)
  simp only [go_sem]
  refine hK _ _ fun env' hw => ⟨.inl rfl, _, rfl, ?_⟩
  obtain ⟨b, _, ⟨_, hIe, h⟩ | ⟨_, σx, hx, h⟩⟩ := hR
  · left
    rw [h, List.append_nil]
    exact ⟨hIe, rfl⟩
  · right
    rw [h, List.append_nil]
    exact hx

set_option maxRecDepth 100000 in
theorem size_calls (e : E) (hsz : e.size < 9223372036854775808) : APure prog Γ 17 [e.enc] (i64 (e.size : Nat)) := by
  refine APure.ofM func17 rfl fun σ => ?_
  simp only [ntmps17, List.length_cons, List.length_nil, Nat.reduceAdd, Nat.reduceSub, List.replicate_succ, List.replicate_zero, List.cons_append, List.nil_append]
  refine AW.regl false [1, 2] (by rfl) fun K1 hK1 => ?_ -- region 0
  simp only [go_sem, Nat.reduceAdd, Nat.reduceEqDiff, Nat.reduceLeDiff, true_and, enc_one, enc_len, enc_get43, enc_get47, List.drop_zero]
  refine hK1 _ _ ?_; try clear hK1 K1
  conv => enter [5]; simp only [setL_cons, setL_nil, List.set_cons_zero, List.set_cons_succ]
  refine AW.regl false [3] (by rfl) fun K2 hK2 => ?_ -- region 1
  simp only [go_sem, Nat.reduceAdd, Nat.reduceEqDiff, Nat.reduceLeDiff, true_and, enc_one, enc_len, enc_get43, enc_get47, List.drop_zero]
  refine hK2 _ _ ?_; try clear hK2 K2
  conv => enter [5]; simp only [setL_cons, setL_nil, List.set_cons_zero, List.set_cons_succ, upd_none, upd_at]
  refine AW.seq_k fun K3 hK3 => ?_
  refine AW.regl false [5] (by rfl) fun K4 hK4 => ?_ -- region 2
  simp only [go_sem, Nat.reduceAdd, Nat.reduceEqDiff, Nat.reduceLeDiff, true_and, enc_one, enc_len, enc_get43, enc_get47, List.drop_zero]
  refine sC.ofR en20 (walk_fn _ e) (fun v' σ' hR => ?_)
  obtain ⟨rfl, rfl⟩ := hR
  simp only [go_sem, Nat.reduceAdd, Nat.reduceEqDiff, Nat.reduceLeDiff, true_and, enc_one, enc_len, enc_get43, enc_get47, List.drop_zero]
  refine hK4 _ _ ?_; try clear hK4 K4
  conv => enter [5]; simp only [setL_cons, setL_nil, List.set_cons_zero, List.set_cons_succ]
  refine AW.block ?_
  refine AW.range (f := 53) (caps := [.ref (σ.length + 2) 0]) (σ0 := σ ++ [.cells e.enc.cells, .cells [i64 0], .cells e.enc.cells]) (xs := e.pre.map fun d => [d.enc]) (fun j => σ ++ [.cells e.enc.cells, .cells [i64 (j : Nat)], .cells e.enc.cells]) (fun _ => True) (fun _ _ => False) ?_ en53 ?_ ?_ ?_ ?_ ?_ ?_ ?_ ?_ ?_ ?_ ?_
  · rfl
  · exact walk_iter e hsz (σ.length + 2) _ ((app_get σ _ 2).trans rfl)
  · exact trivial
  · exact ⟨[], by simp⟩
  · exact by simp
  · exact fun _ => by simp
  · exact fun j _ => bel_app σ fun a ha => by
      simp only [List.mem_cons, List.not_mem_nil, or_false] at ha
      rcases ha with rfl | rfl | rfl
      · exact cells_bel e _
      · rfl
      · exact cells_bel e _
  · exact fun _ _ h => h.elim
  · exact fun x hx => by obtain ⟨d, _, rfl⟩ := List.mem_map.1 hx; rfl
  · intro lp k x hx hI τ
    have hk : k < e.size := by have := (List.getElem?_eq_some_iff.1 hx).1; simpa [pre_length] using this
    obtain ⟨d, hd, rfl⟩ := map_at hx
    simp only [envp, List.set_cons_zero, List.set_cons_succ]
    conv => enter [6]; simp only [List.append_assoc, List.cons_append, List.nil_append, List.append_nil]
    refine AW.skip ?_
    refine ⟨rfl, [], by simp, fun τ' hτ => ?_⟩
    conv => enter [6]; simp only [List.append_assoc, List.cons_append, List.nil_append, List.append_nil]
    refine AW.block ?_
    refine AW.lastl false [] (by rfl) fun K hK => ?_ -- region 3
    simp only [go_sem, Nat.reduceAdd, Nat.reduceEqDiff, Nat.reduceLeDiff, true_and, enc_one, enc_len, enc_get43, enc_get47, List.drop_zero]
    refine hK _ _ fun env' hw => ?_
    simp only [setL_cons, setL_nil, List.set_cons_zero, List.set_cons_succ] at hw
    exact ⟨trivial, [], by simp [wrap_add1 (a := k) (by omega)]⟩
  · intro hI r env0
    conv => enter [3]; simp only [List.append_assoc, List.cons_append, List.nil_append]
    refine hK3 _ _ ?_; try clear hK3 K3
    refine AW.regl false [2] (by rfl) fun K5 hK5 => ?_ -- region 4
    simp only [go_sem, Nat.reduceAdd, Nat.reduceEqDiff, Nat.reduceLeDiff, true_and, enc_one, enc_len, enc_get43, enc_get47, List.drop_zero]
    refine hK5 _ _ ?_; try clear hK5 K5
    conv => enter [5]; simp only [setL_cons, setL_nil, List.set_cons_zero, List.set_cons_succ]
    refine AW.ret ⟨.inr rfl, _, rfl, by simp, ?_⟩ -- return 1
    simp only [List.length_map, pre_length]
    exact .keep rfl
  · exact fun _ _ h => h.elim

theorem single_calls' (hΓ : Words Γ) : ∀ e : E, e.fit → APure prog Γ 50 [e.enc] (bool e.single)
  | .mk k o n s nl l, h => single_calls hΓ k o n s nl l h
theorem all_take {α : Type} {p : α → Bool} {l : List α} {k : Nat} {d : α} (hd : l[k]? = some d) (h : (l.take k).all p = true) (hp : p d = true) : (l.take (k + 1)).all p = true := by
  obtain ⟨hk, rfl⟩ := List.getElem?_eq_some_iff.1 hd
  exact all_step hk h hp
theorem all_bad {α : Type} {p : α → Bool} {l : List α} {k : Nat} {d : α} (hd : l[k]? = some d) (hp : p d = false) : l.all p = false := by
  obtain ⟨hk, rfl⟩ := List.getElem?_eq_some_iff.1 hd
  exact all_at hk hp

set_option maxRecDepth 100000 in
theorem right_calls (hΓ : Words Γ) (e : E) (hsz : e.size < 9223372036854775808) (hft : e.fits) : APure prog Γ 13 [e.enc] (bool (e.pre.all E.single && decide ((e.depth : Int) ≤ 200))) := by
  refine APure.ofM func13 rfl fun σ => ?_
  simp only [ntmps13, List.length_cons, List.length_nil, Nat.reduceAdd, Nat.reduceSub, List.replicate_succ, List.replicate_zero, List.cons_append, List.nil_append]
  refine AW.regl false [1, 2] (by rfl) fun K1 hK1 => ?_ -- region 0
  simp only [go_sem, Nat.reduceAdd, Nat.reduceEqDiff, Nat.reduceLeDiff, true_and, enc_one, enc_len, enc_get43, enc_get47, List.drop_zero]
  refine hK1 _ _ ?_; try clear hK1 K1
  conv => enter [5]; simp only [setL_cons, setL_nil, List.set_cons_zero, List.set_cons_succ]
  refine AW.seq_k fun K2 hK2 => ?_
  refine AW.regl false [5] (by rfl) fun K3 hK3 => ?_ -- region 1
  simp only [go_sem, Nat.reduceAdd, Nat.reduceEqDiff, Nat.reduceLeDiff, true_and, enc_one, enc_len, enc_get43, enc_get47, List.drop_zero]
  refine sC.ofR en20 (walk_fn _ e) (fun v' σ' hR => ?_)
  obtain ⟨rfl, rfl⟩ := hR
  simp only [go_sem, Nat.reduceAdd, Nat.reduceEqDiff, Nat.reduceLeDiff, true_and, enc_one, enc_len, enc_get43, enc_get47, List.drop_zero]
  refine hK3 _ _ ?_; try clear hK3 K3
  conv => enter [5]; simp only [setL_cons, setL_nil, List.set_cons_zero, List.set_cons_succ]
  refine AW.block ?_
  refine AW.range (f := 53) (caps := [.ref (σ.length + 2) 0]) (σ0 := σ ++ [.cells e.enc.cells, .cells [bool false], .cells e.enc.cells]) (xs := e.pre.map fun d => [d.enc]) (fun _ => σ ++ [.cells e.enc.cells, .cells [bool false], .cells e.enc.cells]) (fun j => (e.pre.take j).all E.single = true) (fun ex σx => ex = .ret ∧ e.pre.all E.single = false ∧ σx = σ ++ [.cells e.enc.cells, .cells [bool false], .cells e.enc.cells]) ?_ en53 ?_ ?_ ?_ ?_ ?_ ?_ ?_ ?_ ?_ ?_ ?_
  · rfl
  · exact walk_iter e hsz (σ.length + 2) _ ((app_get σ _ 2).trans rfl)
  · exact rfl
  · exact ⟨[], by simp⟩
  · exact by simp
  · exact fun _ => by simp
  · exact fun _ _ => bel_one
  · exact fun ex σx h => ⟨.inl h.1, by rw [h.2.2], by rw [h.2.2]; exact bel_one⟩
  · exact fun x hx => by obtain ⟨d, _, rfl⟩ := List.mem_map.1 hx; rfl
  · intro lp k x hx hI τ
    obtain ⟨d, hd, rfl⟩ := map_at hx
    simp only [envp, List.set_cons_zero, List.set_cons_succ]
    conv => enter [6]; simp only [List.append_assoc, List.cons_append, List.nil_append, List.append_nil]
    refine AW.lastl false [3] (by rfl) fun K hK => ?_ -- region 2
    simp only [go_sem, Nat.reduceAdd, Nat.reduceEqDiff, Nat.reduceLeDiff, true_and, enc_one, enc_len, enc_get43, enc_get47, List.drop_zero]
    refine hK _ _ fun env' hw => ?_
    simp only [setL_cons, setL_nil, List.set_cons_zero, List.set_cons_succ] at hw
    refine ⟨rfl, [.cells d.enc.cells], by simp, fun τ' hτ => ?_⟩
    refine AW.weaken hw ?_
    have hat := at_len hτ
    conv => enter [6]; simp only [List.append_assoc, List.cons_append, List.nil_append, List.append_nil]
    refine AW.block ?_
    refine AW.regl false [9] (by rfl) fun K4 hK4 => ?_ -- region 3
    simp only [go_sem, Nat.reduceAdd, Nat.reduceEqDiff, Nat.reduceLeDiff, true_and, enc_one, enc_len, enc_get43, enc_get47, List.drop_zero, hat]
    refine sC.of en50 ((single_calls' hΓ d (hft d (List.mem_of_getElem? hd))).on _).here (by rfl) ?_
    simp only [go_sem, Nat.reduceAdd, Nat.reduceEqDiff, Nat.reduceLeDiff, true_and, enc_one, enc_len, enc_get43, enc_get47, List.drop_zero, hat]
    refine hK4 _ _ ?_; try clear hK4 K4
    conv => enter [5]; simp only [setL_cons, setL_nil, List.set_cons_zero, List.set_cons_succ]
    refine AW.cond rfl (fun hc9 => ?_) (fun hc9 => ?_)
    · skip
      refine AW.regl false [] (by rfl) fun K5 hK5 => ?_ -- region 4
      simp only [go_sem, Nat.reduceAdd, Nat.reduceEqDiff, Nat.reduceLeDiff, true_and, enc_one, enc_len, enc_get43, enc_get47, List.drop_zero]
      refine hK5 _ _ ?_; try clear hK5 K5
      conv => enter [5]; simp only [setL_cons, setL_nil, List.set_cons_zero, List.set_cons_succ, upd_none, upd_at]
      exact AW.ret ⟨_, [.cells d.enc.cells], ⟨rfl, all_bad hd (by simpa using hc9), rfl⟩, by simp⟩
    · skip
      refine AW.skip ?_
      exact ⟨all_take hd hI (by simpa using hc9), [.cells d.enc.cells], by simp⟩
  · intro hI r env0
    conv => enter [3]; simp only [List.append_assoc, List.cons_append, List.nil_append]
    rw [List.length_map, List.take_length] at hI
    refine hK2 _ _ ?_; try clear hK2 K2
    refine AW.regl false [] (by rfl) fun K6 hK6 => ?_ -- region 5
    simp only [go_sem, Nat.reduceAdd, Nat.reduceEqDiff, Nat.reduceLeDiff, true_and, enc_one, enc_len, enc_get43, enc_get47, List.drop_zero]
    refine sC.of en15 ((depth_calls e hsz).on _).here (by rfl) ?_
    simp only [go_sem, Nat.reduceAdd, Nat.reduceEqDiff, Nat.reduceLeDiff, true_and, enc_one, enc_len, enc_get43, enc_get47, List.drop_zero]
    refine hK6 _ _ ?_; try clear hK6 K6
    conv => enter [5]; simp only [setL_cons, setL_nil, List.set_cons_zero, List.set_cons_succ, upd_none, upd_at]
    exact AW.ret ⟨.inr rfl, _, ret_cell (v := bool (decide ((e.depth : Int) ≤ 200))) rfl (by simp only [go_sem, List.append_assoc, List.cons_append, List.nil_append]), by simp, by rw [hI]; exact .keep rfl⟩
  · rintro ex σx ⟨rfl, hf, rfl⟩ r env0
    exact ⟨.inr rfl, _, ret_cell (v := bool false) rfl (by simp only [go_sem, List.append_assoc, List.cons_append, List.nil_append]), by simp, by rw [hf]; exact .keep rfl⟩
end A
end Go.Proofs.Tryd

