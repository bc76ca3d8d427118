import Derived.Test.YteekpkbmkibacaaDoorAstU
import Derived.Test.YteekpkbmkibacaaDoorEvLateR
/-! The law AstExprs. -/
namespace Go.Proofs.Tryd
set_option linter.unusedSimpArgs false
set_option linter.unusedVariables false
open Go Go.Proofs.Ev
namespace A
variable {Γ : List (Nat × List AV)}
def nt (x : E) : E := .mk 3 0 0 ⟨#[]⟩ false [x]
def nestE : Nat → E → E
  | 0, e => e
  | i + 1, e => nt (nestE i e)
theorem nt_enc (x : E) : (nt x).enc = .agg [i64 3, i64 0, i64 0, str ⟨#[]⟩, .sl 5 [x.enc]] := by rw [nt, E.enc_mk]; rfl
theorem nt_fold (x : E) : ([i64 3, i64 0, i64 0, str ⟨#[]⟩, .sl 5 [x.enc]] : List AV) = (nt x).enc.cells := by rw [nt_enc]; rfl
theorem enc_drop (x : E) : List.drop 5 x.enc.cells = [] := List.drop_eq_nil_of_le (by rw [enc_len]; exact Nat.le_refl _)
theorem nestE_size (e : E) : ∀ i, (nestE i e).size = e.size + i
  | 0 => rfl
  | i + 1 => by
    show (nt (nestE i e)).size = _
    simp only [nt, E.size, sizeL, nestE_size e i]
    omega
theorem nestE_fits {e : E} (h : e.fits) : ∀ i, (nestE i e).fits
  | 0 => h
  | i + 1 => fun d hd => by
    have hd : d ∈ (nt (nestE i e)).pre := hd
    simp only [nt, E.pre, preL, List.append_nil, List.mem_cons] at hd
    rcases hd with rfl | hd
    · exact Nat.zero_le _
    · exact nestE_fits h i d hd
theorem pre_size : ∀ (e d : E), d ∈ e.pre → d.size ≤ e.size := E.ind fun k o n s nl l ih d hd => by
  simp only [E.pre, List.mem_cons] at hd
  rcases hd with rfl | hd
  · exact Nat.le_refl _
  · have go : ∀ l : List E, (∀ e ∈ l, ∀ d, d ∈ e.pre → d.size ≤ e.size) → d ∈ preL l → d.size ≤ sizeL l := by
      intro l
      induction l with
      | nil => intro _ h; cases h
      | cons e l ih' =>
        intro h hd
        simp only [preL, List.mem_append] at hd
        simp only [sizeL]
        rcases hd with hd | hd
        · have := h e List.mem_cons_self d hd
          omega
        · have := ih' (fun e he => h e (List.mem_cons_of_mem _ he)) hd
          omega
    have := go l ih hd
    simp only [E.size]
    omega
theorem bel_mid {n : Nat} (A B : Sto) {a0 a : AO} (h : a.bel n = true) : ∀ (i : Nat) x, (A ++ a :: B)[i]? = some x → (A ++ a0 :: B)[i]? = some x ∨ x.bel n = true := fun i x hx => by
  rw [List.getElem?_append] at hx ⊢
  split at hx
  · rename_i hi
    rw [if_pos hi]
    exact .inl hx
  · rename_i hi
    rw [if_neg hi]
    cases hq : i - A.length with
    | zero =>
      rw [hq] at hx
      simp only [List.getElem?_cons_zero, Option.some.injEq] at hx
      subst hx
      exact .inr h
    | succ q =>
      rw [hq] at hx
      exact .inl hx
theorem bel_mid2 {n : Nat} (A B : Sto) {a0 a b0 b : AO} (h : a.bel n = true) (hb : b.bel n = true) : ∀ (i : Nat) x, (A ++ a :: b :: B)[i]? = some x → (A ++ a0 :: b0 :: B)[i]? = some x ∨ x.bel n = true := fun i x hx => by
  rw [List.getElem?_append] at hx ⊢
  split at hx
  · rename_i hi
    rw [if_pos hi]
    exact .inl hx
  · rename_i hi
    rw [if_neg hi]
    match hq : i - A.length with
    | 0 =>
      rw [hq] at hx
      simp only [List.getElem?_cons_zero, Option.some.injEq] at hx
      subst hx
      exact .inr h
    | 1 =>
      rw [hq] at hx
      simp only [List.getElem?_cons_zero, List.getElem?_cons_succ, Option.some.injEq] at hx
      subst hx
      exact .inr hb
    | q + 2 =>
      rw [hq] at hx
      exact .inl hx
theorem take_map_succ {l : List E} {k : Nat} {d : E} (h : l[k]? = some d) : l.take (k + 1) = l.take k ++ [d] := by
  obtain ⟨hk, rfl⟩ := List.getElem?_eq_some_iff.1 h
  exact List.take_succ_eq_append_getElem hk
/-- The list of all below, begun from nothing. -/
theorem below_nil (σ : Sto) (e : E) (hz : e.size ≤ 2000000) : ACalls prog Γ 22 [e.enc, .nilsl] σ (fun v σ' => v = .slo true 5 (e.pre.map E.enc) σ.length ∧ σ' = σ ++ [.cap e.size 5]) := by
  intro C xs hσ hS hG hL
  have hg := ghost_ext C (ao := .cap 0 5) (by simp [AO.lim])
  have hr := ghost_rel hS (ao := .cap 0 5) (by simp [AO.lim])
  match xs, hL with
  | [x, y], ⟨h1, h2, _⟩ =>
    obtain rfl : y = .slice none 0 0 := h2
    have hO : OwnRow (fun m => σ ++ [.cap m 5]) σ.length (σ.length + 1) 5 := {
      len := fun m => by simp
      lt := by omega
      get := fun m x => by rw [List.append_assoc]; exact app_get0 _ _
      set := fun m m' x => by rw [List.append_assoc, List.append_assoc]; simp
      same := fun m m' i hi => by
        rw [List.getElem?_append, List.getElem?_append]
        split
        · rfl
        · rename_i h
          rw [List.getElem?_eq_none (by simp; omega), List.getElem?_eq_none (by simp; omega)] }
    have hc := below_calls (Γ := Γ) e [] (fun m => σ ++ [.cap m 5]) σ.length (σ.length + 1) hO (by simpa using hz)
    have hw : (C.ghost (.cap 0 5)).w = C.w := rfl
    have hl : RelL (C.ghost (.cap 0 5)) [e.enc, .slo true 5 (([] : List E).map E.enc) σ.length] [x, .slice none 0 0] := ⟨RelV.mono hg h1, by rw [← hσ]; exact ghost_slo (by decide) true none rfl (fun _ h => by cases h), trivial⟩
    refine (hc (C.ghost (.cap 0 5)) [x, .slice none 0 0] (by simp [Ctx.ghost, hσ]) hr (RelG.mono hg hG) hl).mono ?_
    rintro e' w' ⟨D, x', v, k1, k2, k3, k4, k5, rfl, k6⟩
    exact ⟨D, x', _, k1, k2, hg.trans k3, k4, k5, by simp, by simpa using k6⟩
theorem late_app {σ : Sto} {es : List AV} {k m : Nat} {z : AV} (h : σ[k]? = some (.cap m 5)) (hm : m = es.length) (hn : m ≤ 2000000) : aAppendO prog σ 41 41 true 5 es k (.sl 5 [z]) = some (.slo true 5 (es ++ [z]) k, σ.set k (.cap (m + 1) 5)) := by
  rw [app41, src41, h]
  exact app_one σ true 5 64 es k m z hm hn (by decide)
theorem take_full {l : List E} {n : Nat} (h : l.length = n) : l.take n = l := List.take_of_length_le (by omega)
theorem zz43 : ofConst (.agg #[.int .i64 0, .int .i64 0, .int .i64 0, .string ⟨#[]⟩, .slice none 0 0]) = .agg [i64 0, i64 0, i64 0, str ⟨#[]⟩, .nilsl] := rfl
theorem zrow (σ : Sto) : aRow prog false σ 41 1 [(0, .agg [i64 0, i64 0, i64 0, str ⟨#[]⟩, .nilsl])] = some (.sl 5 [.agg [i64 0, i64 0, i64 0, str ⟨#[]⟩, .nilsl]], σ) := row1_41 σ _ rfl rfl
theorem bel_app' {n : Nat} {l l' : Sto} (σ : Sto) (h : ∀ (i : Nat) x, l'[i]? = some x → l[i]? = some x ∨ x.bel n = true) : ∀ (i : Nat) x, (σ ++ l')[i]? = some x → (σ ++ l)[i]? = some x ∨ x.bel n = true := fun i x hx => by
  rw [List.getElem?_append] at hx ⊢
  split at hx
  · rename_i hi
    rw [if_pos hi]
    exact .inl hx
  · rename_i hi
    rw [if_neg hi]
    exact h _ x hx
theorem ntwo : ((2 : Nat) : Int) = 2 := rfl
set_option maxRecDepth 100000 in
set_option maxHeartbeats 2000000 in
theorem astExprs_calls (hΓ : Words Γ) (e f : E) (w : Int) (hw : 0 ≤ w) (hw2 : w ≤ 255) (he : e.size ≤ 1100000) (hf : f.size ≤ 1100000) (hft : e.fits) : APure prog Γ 4 [e.enc, f.enc, .val (.int .u8 w)] (bool true) := by
  refine APure.ofM func4 rfl fun σ => ?_
  simp only [ntmps4, List.length_cons, List.length_nil, Nat.reduceAdd, Nat.reduceSub, List.replicate_succ, List.replicate_zero, List.cons_append, List.nil_append]
  have hwr : IntKind.i64.wrap w = w := wrap_i64 (by omega) (by omega)
  obtain ⟨m, hm⟩ := Int.eq_ofNat_of_zero_le (Int.tmod_nonneg 251 hw)
  have hlt : m < 251 := by have := Int.tmod_lt_of_pos w (show (0:Int) < 251 by decide); omega
  have hl : m ≤ maxLen := by rw [maxLen_eq]; omega
  refine AW.regl false [3, 4, 6] (by rfl) fun K1 hK1 => ?_ -- region 0
  simp only [go_sem, Nat.reduceAdd, Nat.reduceEqDiff, Nat.reduceLeDiff, true_and, ProgM.enc, NodeM.enc, EqM.enc, VarM.enc, enc_one, enc_len, enc_get43, enc_get47, eqc_get81, eqc_get128, List.length_map, List.length_cons, List.all_cons, one_row, len_row, ba_beqL, List.drop_zero]
  refine hK1 _ _ ?_; try clear hK1 K1
  conv => enter [5]; simp only [setL_cons, setL_nil, List.set_cons_zero, List.set_cons_succ]
  refine AW.seq_k fun K2 hK2 => ?_
  refine AW.regtf false 22 (.val (.bool (decide ((((e.size : Nat) : Int) > 400)) || (decide (((f.size : Nat) : Int) > 400))))) (by rfl) ?_ ?_ -- region 1
  · skip
    cases h17 : ((decide (((e.size : Nat) : Int) > 400)))
    · skip
      simp only [go_sem, Nat.reduceAdd, Nat.reduceEqDiff, Nat.reduceLeDiff, true_and, ProgM.enc, NodeM.enc, EqM.enc, VarM.enc, enc_one, enc_len, enc_get43, enc_get47, eqc_get81, eqc_get128, List.length_map, List.length_cons, List.all_cons, one_row, len_row, ba_beqL, List.drop_zero, h17]
      refine sC.of en11 ((rsize_calls e (by omega)).on _).here (by rfl) ?_
      simp only [go_sem, Nat.reduceAdd, Nat.reduceEqDiff, Nat.reduceLeDiff, true_and, ProgM.enc, NodeM.enc, EqM.enc, VarM.enc, enc_one, enc_len, enc_get43, enc_get47, eqc_get81, eqc_get128, List.length_map, List.length_cons, List.all_cons, one_row, len_row, ba_beqL, List.drop_zero, h17]
      refine sC.of en11 ((rsize_calls f (by omega)).on _).here (by rfl) ?_
      simp only [go_sem, Nat.reduceAdd, Nat.reduceEqDiff, Nat.reduceLeDiff, true_and, ProgM.enc, NodeM.enc, EqM.enc, VarM.enc, enc_one, enc_len, enc_get43, enc_get47, eqc_get81, eqc_get128, List.length_map, List.length_cons, List.all_cons, one_row, len_row, ba_beqL, List.drop_zero, h17]
      try simp [upd_at, h17, ProgM.enc, NodeM.enc, EqM.enc, VarM.enc, enc_one, enc_len, enc_get43, enc_get47, eqc_get81, eqc_get128, List.length_map, List.length_cons, List.all_cons, one_row, len_row, ba_beqL, List.drop_zero]
    · skip
      simp only [go_sem, Nat.reduceAdd, Nat.reduceEqDiff, Nat.reduceLeDiff, true_and, ProgM.enc, NodeM.enc, EqM.enc, VarM.enc, enc_one, enc_len, enc_get43, enc_get47, eqc_get81, eqc_get128, List.length_map, List.length_cons, List.all_cons, one_row, len_row, ba_beqL, List.drop_zero, h17]
      refine sC.of en11 ((rsize_calls e (by omega)).on _).here (by rfl) ?_
      simp only [go_sem, Nat.reduceAdd, Nat.reduceEqDiff, Nat.reduceLeDiff, true_and, ProgM.enc, NodeM.enc, EqM.enc, VarM.enc, enc_one, enc_len, enc_get43, enc_get47, eqc_get81, eqc_get128, List.length_map, List.length_cons, List.all_cons, one_row, len_row, ba_beqL, List.drop_zero, h17]
      try simp [upd_at, h17, ProgM.enc, NodeM.enc, EqM.enc, VarM.enc, enc_one, enc_len, enc_get43, enc_get47, eqc_get81, eqc_get128, List.length_map, List.length_cons, List.all_cons, one_row, len_row, ba_beqL, List.drop_zero]
  conv => enter [5]; simp only [List.set_cons_zero, List.set_cons_succ]
  refine AW.cond rfl (fun hc22 => ?_) (fun hc22 => ?_)
  · skip
    refine AW.regl false [] (by rfl) fun K4 hK4 => ?_ -- region 2
    simp only [go_sem, Nat.reduceAdd, Nat.reduceEqDiff, Nat.reduceLeDiff, true_and, ProgM.enc, NodeM.enc, EqM.enc, VarM.enc, enc_one, enc_len, enc_get43, enc_get47, eqc_get81, eqc_get128, List.length_map, List.length_cons, List.all_cons, one_row, len_row, ba_beqL, List.drop_zero]
    refine hK4 _ _ ?_; try clear hK4 K4
    conv => enter [5]; simp only [setL_cons, setL_nil, List.set_cons_zero, List.set_cons_succ, upd_none, upd_at]
    exact AW.ret ⟨.inr rfl, _, ret_cell (v := bool true) rfl (by simp only [go_sem, List.append_assoc, List.cons_append, List.nil_append]), by simp, .keep rfl⟩
  · skip
    simp only [Bool.or_eq_false_iff, decide_eq_false_iff_not] at hc22
    have he4 : e.size ≤ 400 := by omega
    refine AW.skip ?_
    refine hK2 _ _ ?_; try clear hK2 K2
    refine AW.seq_k fun K5 hK5 => ?_
    refine AW.regl false [7] (by rfl) fun K6 hK6 => ?_ -- region 3
    simp only [go_sem, Nat.reduceAdd, Nat.reduceEqDiff, Nat.reduceLeDiff, true_and, ProgM.enc, NodeM.enc, EqM.enc, VarM.enc, enc_one, enc_len, enc_get43, enc_get47, eqc_get81, eqc_get128, List.length_map, List.length_cons, List.all_cons, one_row, len_row, ba_beqL, List.drop_zero]
    refine hK6 _ _ ?_; try clear hK6 K6
    conv => enter [5]; simp only [setL_cons, setL_nil, List.set_cons_zero, List.set_cons_succ]
    refine AW.block ?_
    -- LIVE but not told: [75]
    refine AW.loop_wk (α := Nat) (fun i => [.any, .any, (.val (.int .u8 w)), (.ref σ.length 0), (.ref (σ.length + 1) 0), .any, (.ref (σ.length + 2) 0), (.val (.int .i64 ((i : Nat) : Int))), .any, .any, .any, .any, .any, .any, .any, .any, .any, .any, .any, .any, .any, .any, .any, .any, .any, .any, .any, .any, .any, .any, .any, .any, .any, .any, .any, .any, .any, .any, .any, .any, .any, .any, .any, .any, .any, .any, .any, .any, .any, .any, .any, .any, .any, .any, .any, .any, .any, .any, .any, .any, .any, .any, .any, .any, .any, .any, .any, .any, .any, .any, .any, .any, .any, .any, .any, .any, .any, .any, .any, .any, .any, .any, .any, .any, .any, .any, .any, .any, .any, .any, .any, .any, .any, .any, .any, .any, .any, .any, .any, .any, .any, .any, .any, .any, .any, .any, .any, .any, .any, .any, .any, .any, .any, .any, .any, .any, .any, .any, .any, .any, .any, .any, .any, .any, .any, .any]) (fun i => σ ++ [.cells (E.enc (nestE i e)).cells, .cells (E.enc f).cells, .cells [.val (.bool false)]]) (fun i => m - i) (fun i => i ≤ m) 0 ?_ ?_
    · exact ⟨Nat.zero_le _, by simp [Wk], rfl⟩
    · intro i hi
      refine AW.seq_k fun K7 hK7 => ?_
      refine AW.regl false [27] (by rfl) fun K8 hK8 => ?_ -- region 4
      simp only [go_sem, Nat.reduceAdd, Nat.reduceEqDiff, Nat.reduceLeDiff, true_and, ProgM.enc, NodeM.enc, EqM.enc, VarM.enc, enc_one, enc_len, enc_get43, enc_get47, eqc_get81, eqc_get128, List.length_map, List.length_cons, List.all_cons, one_row, len_row, ba_beqL, List.drop_zero, bin_rem (show (251 : Int) ≠ 0 by decide), hwr, hm]
      refine hK8 _ _ ?_; try clear hK8 K8
      conv => enter [5]; simp only [setL_cons, setL_nil, List.set_cons_zero, List.set_cons_succ]
      refine AW.cond rfl (fun hc27 => ?_) (fun hc27 => ?_)
      · skip
        have hi1 : i < m := by simpa using hc27
        refine AW.skip ?_
        refine hK7 _ _ ?_; try clear hK7 K7
        refine AW.seq_k fun K9 hK9 => ?_
        refine AW.block ?_
        refine AW.lastl false [] (by rfl) fun K hK => ?_ -- region 6
        simp only [go_sem, Nat.reduceAdd, Nat.reduceEqDiff, Nat.reduceLeDiff, true_and, ProgM.enc, NodeM.enc, EqM.enc, VarM.enc, enc_one, enc_len, enc_get43, enc_get47, eqc_get81, eqc_get128, List.length_map, List.length_cons, List.all_cons, one_row, len_row, ba_beqL, List.drop_zero, nt_fold, enc_drop, List.append_nil, row1_41 _ _ (enc_len _) (enc_one _)]
        refine hK _ _ fun env' hw => ?_
        simp only [setL_cons, setL_nil, List.set_cons_zero, List.set_cons_succ] at hw
        refine hK9 _ _ (AW.weaken hw ?_); clear hw; try clear hK9 K9
        refine AW.lastl false [7] (by rfl) fun K hK => ?_ -- region 5
        simp only [go_sem, Nat.reduceAdd, Nat.reduceEqDiff, Nat.reduceLeDiff, true_and, ProgM.enc, NodeM.enc, EqM.enc, VarM.enc, enc_one, enc_len, enc_get43, enc_get47, eqc_get81, eqc_get128, List.length_map, List.length_cons, List.all_cons, one_row, len_row, ba_beqL, List.drop_zero]
        refine hK _ _ fun env' hw => ?_
        simp only [setL_cons, setL_nil, List.set_cons_zero, List.set_cons_succ] at hw
        refine ⟨i + 1, by omega, by omega, ?_, rfl⟩
        refine hw.trans ?_
        simp [Wk, wrap_succ hi1 hl]
        try omega
      · skip
        have hi1 : i = m := by
          have : ¬ i < m := by simpa using hc27
          omega
        have hgs : (nestE i e).size ≤ 651 := by rw [nestE_size]; omega
        have hgf : (nestE i e).fits := nestE_fits hft i
        have hns : (nestE i e).norm.size = (nestE i e).size := norm_size _
        have hpl : (nestE i e).norm.pre.length = (nestE i e).size := by rw [pre_length, norm_size]
        have htf : List.take (nestE i e).size (nestE i e).norm.pre = (nestE i e).norm.pre := take_full hpl
        have hlg : (nestE i e).size ≤ maxLen := by rw [maxLen_eq]; omega
        have hR13 : APure prog Γ 13 [(nestE i e).norm.enc] (bool (exprR (nestE i e))) := by
          have := right_calls hΓ (nestE i e).norm (by omega) (norm_fits hgf)
          rwa [← shape_pre, ← exprR, own_exprR] at this
        have hR14 : APure prog Γ 14 [(nestE i e).enc] (bool (exprR (nestE i e))) := right_expr_calls (nestE i e) (by omega) hgf
        have hD15 : APure prog Γ 15 [(nestE i e).norm.enc] (i64 ((nestE i e).depth : Nat)) := by
          have := depth_calls (Γ := Γ) (nestE i e).norm (by omega)
          rwa [norm_depth] at this
        have hS17 : APure prog Γ 17 [(nestE i e).norm.enc] (i64 ((nestE i e).size : Nat)) := by
          have := size_calls (Γ := Γ) (nestE i e).norm (by omega)
          rwa [norm_size] at this
        have hS18 : APure prog Γ 18 [(nestE i e).norm.enc, f.norm.enc] (bool (decide ((nestE i e).norm = f.norm))) := by
          have := same_calls (Γ := Γ) (nestE i e).norm (by omega) f.norm
          rwa [norm_norm, norm_norm] at this
        have hS18b : APure prog Γ 18 [(nestE i e).norm.enc, (nestE i e).norm.enc] (bool true) := by
          have := same_calls (Γ := Γ) (nestE i e).norm (by omega) (nestE i e).norm
          rwa [decide_eq_true rfl] at this
        refine AW.exit ?_
        refine hK5 _ _ ?_; try clear hK5 K5
        refine AW.regl false [8] (by rfl) fun K10 hK10 => ?_ -- region 7
        simp only [go_sem, Nat.reduceAdd, Nat.reduceEqDiff, Nat.reduceLeDiff, true_and, ProgM.enc, NodeM.enc, EqM.enc, VarM.enc, enc_one, enc_len, enc_get43, enc_get47, eqc_get81, eqc_get128, List.length_map, List.length_cons, List.all_cons, one_row, len_row, ba_beqL, List.drop_zero]
        refine sC.of en12 ((own_calls (nestE i e) (by omega)).on _).here (by rfl) ?_
        simp only [go_sem, Nat.reduceAdd, Nat.reduceEqDiff, Nat.reduceLeDiff, true_and, ProgM.enc, NodeM.enc, EqM.enc, VarM.enc, enc_one, enc_len, enc_get43, enc_get47, eqc_get81, eqc_get128, List.length_map, List.length_cons, List.all_cons, one_row, len_row, ba_beqL, List.drop_zero]
        refine hK10 _ _ ?_; try clear hK10 K10
        conv => enter [5]; simp only [setL_cons, setL_nil, List.set_cons_zero, List.set_cons_succ, upd_none, upd_at]
        refine AW.seq_k fun K11 hK11 => ?_
        refine AW.regtdf mixed false 69 (.val (.bool (false))) (by kernel_rfl) (by rfl) ?_ ?_ -- region 8
        · skip
          simp only [go_sem, Nat.reduceAdd, Nat.reduceEqDiff, Nat.reduceLeDiff, true_and, ProgM.enc, NodeM.enc, EqM.enc, VarM.enc, enc_one, enc_len, enc_get43, enc_get47, eqc_get81, eqc_get128, List.length_map, List.length_cons, List.all_cons, one_row, len_row, ba_beqL, List.drop_zero, bin_bneq tyBool4, bne_self_eq_false, beq_self_eq_true, Bool.not_true]
          refine qC.of en13 (hR13.on _).here (by rfl) ?_
          simp only [go_sem, Nat.reduceAdd, Nat.reduceEqDiff, Nat.reduceLeDiff, true_and, ProgM.enc, NodeM.enc, EqM.enc, VarM.enc, enc_one, enc_len, enc_get43, enc_get47, eqc_get81, eqc_get128, List.length_map, List.length_cons, List.all_cons, one_row, len_row, ba_beqL, List.drop_zero, bin_bneq tyBool4, bne_self_eq_false, beq_self_eq_true, Bool.not_true]
          refine qC.of en14 (hR14.on _).here (by rfl) ?_
          simp only [go_sem, Nat.reduceAdd, Nat.reduceEqDiff, Nat.reduceLeDiff, true_and, ProgM.enc, NodeM.enc, EqM.enc, VarM.enc, enc_one, enc_len, enc_get43, enc_get47, eqc_get81, eqc_get128, List.length_map, List.length_cons, List.all_cons, one_row, len_row, ba_beqL, List.drop_zero, bin_bneq tyBool4, bne_self_eq_false, beq_self_eq_true, Bool.not_true]
          refine qC.of en15 (hD15.on _).here (by rfl) ?_
          simp only [go_sem, Nat.reduceAdd, Nat.reduceEqDiff, Nat.reduceLeDiff, true_and, ProgM.enc, NodeM.enc, EqM.enc, VarM.enc, enc_one, enc_len, enc_get43, enc_get47, eqc_get81, eqc_get128, List.length_map, List.length_cons, List.all_cons, one_row, len_row, ba_beqL, List.drop_zero, bin_bneq tyBool4, bne_self_eq_false, beq_self_eq_true, Bool.not_true]
          refine qC.of en16 ((rdepth_calls (nestE i e) (by omega)).on _).here (by rfl) ?_
          simp only [go_sem, Nat.reduceAdd, Nat.reduceEqDiff, Nat.reduceLeDiff, true_and, ProgM.enc, NodeM.enc, EqM.enc, VarM.enc, enc_one, enc_len, enc_get43, enc_get47, eqc_get81, eqc_get128, List.length_map, List.length_cons, List.all_cons, one_row, len_row, ba_beqL, List.drop_zero, bin_bneq tyBool4, bne_self_eq_false, beq_self_eq_true, Bool.not_true]
          refine qC.of en17 (hS17.on _).here (by rfl) ?_
          simp only [go_sem, Nat.reduceAdd, Nat.reduceEqDiff, Nat.reduceLeDiff, true_and, ProgM.enc, NodeM.enc, EqM.enc, VarM.enc, enc_one, enc_len, enc_get43, enc_get47, eqc_get81, eqc_get128, List.length_map, List.length_cons, List.all_cons, one_row, len_row, ba_beqL, List.drop_zero, bin_bneq tyBool4, bne_self_eq_false, beq_self_eq_true, Bool.not_true]
          refine qC.of en11 ((rsize_calls (nestE i e) (by omega)).on _).here (by rfl) ?_
          simp only [go_sem, Nat.reduceAdd, Nat.reduceEqDiff, Nat.reduceLeDiff, true_and, ProgM.enc, NodeM.enc, EqM.enc, VarM.enc, enc_one, enc_len, enc_get43, enc_get47, eqc_get81, eqc_get128, List.length_map, List.length_cons, List.all_cons, one_row, len_row, ba_beqL, List.drop_zero, bin_bneq tyBool4, bne_self_eq_false, beq_self_eq_true, Bool.not_true]
          refine qC.of en12 ((own_calls f (by omega)).on _).here (by rfl) ?_
          simp only [go_sem, Nat.reduceAdd, Nat.reduceEqDiff, Nat.reduceLeDiff, true_and, ProgM.enc, NodeM.enc, EqM.enc, VarM.enc, enc_one, enc_len, enc_get43, enc_get47, eqc_get81, eqc_get128, List.length_map, List.length_cons, List.all_cons, one_row, len_row, ba_beqL, List.drop_zero, bin_bneq tyBool4, bne_self_eq_false, beq_self_eq_true, Bool.not_true]
          refine qC.of en18 (hS18.on _).here (by rfl) ?_
          simp only [go_sem, Nat.reduceAdd, Nat.reduceEqDiff, Nat.reduceLeDiff, true_and, ProgM.enc, NodeM.enc, EqM.enc, VarM.enc, enc_one, enc_len, enc_get43, enc_get47, eqc_get81, eqc_get128, List.length_map, List.length_cons, List.all_cons, one_row, len_row, ba_beqL, List.drop_zero, bin_bneq tyBool4, bne_self_eq_false, beq_self_eq_true, Bool.not_true]
          refine qC.of en19 ((rsame_calls (nestE i e) (by omega) f).on _).here (by rfl) ?_
          simp only [go_sem, Nat.reduceAdd, Nat.reduceEqDiff, Nat.reduceLeDiff, true_and, ProgM.enc, NodeM.enc, EqM.enc, VarM.enc, enc_one, enc_len, enc_get43, enc_get47, eqc_get81, eqc_get128, List.length_map, List.length_cons, List.all_cons, one_row, len_row, ba_beqL, List.drop_zero, bin_bneq tyBool4, bne_self_eq_false, beq_self_eq_true, Bool.not_true]
          refine qC.of en18 (hS18b.on _).here (by rfl) ?_
          simp only [go_sem, Nat.reduceAdd, Nat.reduceEqDiff, Nat.reduceLeDiff, true_and, ProgM.enc, NodeM.enc, EqM.enc, VarM.enc, enc_one, enc_len, enc_get43, enc_get47, eqc_get81, eqc_get128, List.length_map, List.length_cons, List.all_cons, one_row, len_row, ba_beqL, List.drop_zero, bin_bneq tyBool4, bne_self_eq_false, beq_self_eq_true, Bool.not_true]
          try simp [upd_at, ProgM.enc, NodeM.enc, EqM.enc, VarM.enc, enc_one, enc_len, enc_get43, enc_get47, eqc_get81, eqc_get128, List.length_map, List.length_cons, List.all_cons, one_row, len_row, ba_beqL, List.drop_zero, bin_bneq tyBool4, bne_self_eq_false, beq_self_eq_true, Bool.not_true]
        conv => enter [5]; simp only [List.set_cons_zero, List.set_cons_succ]
        refine AW.cond rfl (fun hc69 => ?_) (fun hc69 => ?_)
        · skip
          exact absurd hc69 (by simp)
        · skip
          refine AW.skip ?_
          refine hK11 _ _ ?_; try clear hK11 K11
          refine AW.regl false [9] (by rfl) fun K13 hK13 => ?_ -- region 10
          simp only [go_sem, Nat.reduceAdd, Nat.reduceEqDiff, Nat.reduceLeDiff, true_and, ProgM.enc, NodeM.enc, EqM.enc, VarM.enc, enc_one, enc_len, enc_get43, enc_get47, eqc_get81, eqc_get128, List.length_map, List.length_cons, List.all_cons, one_row, len_row, ba_beqL, List.drop_zero]
          refine sC.ofR en20 (walk_fn _ (nestE i e).norm) (fun v' σ' hR => ?_)
          obtain ⟨rfl, rfl⟩ := hR
          simp only [go_sem, Nat.reduceAdd, Nat.reduceEqDiff, Nat.reduceLeDiff, true_and, ProgM.enc, NodeM.enc, EqM.enc, VarM.enc, enc_one, enc_len, enc_get43, enc_get47, eqc_get81, eqc_get128, List.length_map, List.length_cons, List.all_cons, one_row, len_row, ba_beqL, List.drop_zero]
          refine hK13 _ _ ?_; try clear hK13 K13
          conv => enter [5]; simp only [setL_cons, setL_nil, List.set_cons_zero, List.set_cons_succ]
          refine AW.seq_k fun K14 hK14 => ?_
          refine AW.fnnil (f := 53) (caps := [.ref (σ.length + 4) 0]) underlying54 rfl rfl ?_ -- region 11
          conv => enter [5]; simp only [List.set_cons_zero, List.set_cons_succ]
          refine AW.cond rfl (fun hc73 => ?_) (fun hc73 => ?_)
          · skip
            exact absurd hc73 (by simp)
          · skip
            refine AW.skip ?_
            refine hK14 _ _ ?_; try clear hK14 K14
            refine AW.regl false [10] (by rfl) fun K16 hK16 => ?_ -- region 13
            simp only [go_sem, Nat.reduceAdd, Nat.reduceEqDiff, Nat.reduceLeDiff, true_and, ProgM.enc, NodeM.enc, EqM.enc, VarM.enc, enc_one, enc_len, enc_get43, enc_get47, eqc_get81, eqc_get128, List.length_map, List.length_cons, List.all_cons, one_row, len_row, ba_beqL, List.drop_zero]
            refine hK16 _ _ ?_; try clear hK16 K16
            conv => enter [5]; simp only [setL_cons, setL_nil, List.set_cons_zero, List.set_cons_succ]
            refine AW.cap 5 ?_
            simp only [List.append_assoc, List.cons_append, List.nil_append]
            refine AW.own (σ.length + 5) 0 (σ.length + 6) ((app_get σ _ 5).trans rfl) rfl ((app_get σ _ 6).trans rfl) (by decide) ?_
            simp only [app_set, List.set_cons_zero, List.set_cons_succ]
            refine AW.seq_k fun K17 hK17 => ?_
            refine AW.regl false [74] (by rfl) fun K18 hK18 => ?_ -- region 14
            simp only [go_sem, Nat.reduceAdd, Nat.reduceEqDiff, Nat.reduceLeDiff, true_and, ProgM.enc, NodeM.enc, EqM.enc, VarM.enc, enc_one, enc_len, enc_get43, enc_get47, eqc_get81, eqc_get128, List.length_map, List.length_cons, List.all_cons, one_row, len_row, ba_beqL, List.drop_zero]
            refine hK18 _ _ ?_; try clear hK18 K18
            conv => enter [5]; simp only [setL_cons, setL_nil, List.set_cons_zero, List.set_cons_succ]
            refine AW.block ?_
            refine AW.range (f := 53) (caps := [.ref (σ.length + 4) 0]) (σ0 := (fun j => σ ++ [.cells (nestE i e).enc.cells, .cells f.enc.cells, .cells [bool false], .cells (nestE i e).norm.enc.cells, .cells (nestE i e).norm.enc.cells, .cells [.slo true 5 ((((nestE i e).norm.pre.take j).map E.norm).map E.enc) (σ.length + 6)], .cap j 5]) 0) (xs := (nestE i e).norm.pre.map fun d => [d.enc]) (fun j => σ ++ [.cells (nestE i e).enc.cells, .cells f.enc.cells, .cells [bool false], .cells (nestE i e).norm.enc.cells, .cells (nestE i e).norm.enc.cells, .cells [.slo true 5 ((((nestE i e).norm.pre.take j).map E.norm).map E.enc) (σ.length + 6)], .cap j 5]) (fun _ => True) (fun _ _ => False) ?_ en53 ?_ ?_ ?_ ?_ ?_ ?_ ?_ ?_ ?_ ?_ ?_
            · rfl
            · exact walk_iter (nestE i e).norm (by omega) (σ.length + 4) _ ((app_get σ _ 4).trans rfl)
            · exact trivial
            · exact ⟨[], by simp⟩
            · exact by simp
            · exact fun _ => by simp
            · exact fun j _ => bel_app' σ (bel_mid2 ([.cells (nestE i e).enc.cells, .cells f.enc.cells, .cells [bool false], .cells (nestE i e).norm.enc.cells, .cells (nestE i e).norm.enc.cells]) [] (a := .cells [.slo true 5 ((((nestE i e).norm.pre.take j).map E.norm).map E.enc) (σ.length + 6)]) (b := .cap j 5) (by
                simp only [AO.bel, belL, AV.bel, List.length_append, List.length_cons, List.length_nil, Bool.and_true, Bool.and_eq_true, decide_eq_true_eq]
                exact ⟨by omega, belL_map _ _ fun x hx => enc_bel _ x⟩) rfl)
            · exact fun _ _ h => h.elim
            · exact fun x hx => by obtain ⟨d, _, rfl⟩ := List.mem_map.1 hx; rfl
            · intro lp k x hx hI τ
              obtain ⟨d, hd, rfl⟩ := map_at hx
              have hk : k < (nestE i e).size := by have := (List.getElem?_eq_some_iff.1 hd).1; omega
              have hds : d.size ≤ 651 := Nat.le_trans (pre_size _ _ (List.mem_of_getElem? hd)) (by omega)
              simp only [envp, List.set_cons_zero, List.set_cons_succ]
              conv => enter [6]; simp only [List.append_assoc, List.cons_append, List.nil_append, List.append_nil]
              refine AW.lastl false [11] (by rfl) fun K hK => ?_ -- region 15
              simp only [go_sem, Nat.reduceAdd, Nat.reduceEqDiff, Nat.reduceLeDiff, true_and, ProgM.enc, NodeM.enc, EqM.enc, VarM.enc, enc_one, enc_len, enc_get43, enc_get47, eqc_get81, eqc_get128, List.length_map, List.length_cons, List.all_cons, one_row, len_row, ba_beqL, List.drop_zero]
              refine hK _ _ fun env' hw => ?_
              simp only [setL_cons, setL_nil, List.set_cons_zero, List.set_cons_succ] at hw
              refine ⟨rfl, [.cells d.enc.cells], by simp, fun τ' hτ => ?_⟩
              refine AW.weaken hw ?_
              have hat := at_len hτ
              conv => enter [6]; simp only [List.append_assoc, List.cons_append, List.nil_append, List.append_nil]
              refine AW.block ?_
              refine AW.reglate mixed [] 5 (by kernel_rfl) (by kernel_rfl) (by rfl) rfl (by decide) fun K19 hK19 => ?_ -- region 16
              simp only [go_sem, Nat.reduceAdd, Nat.reduceEqDiff, Nat.reduceLeDiff, true_and, enc_one, enc_len, enc_get43, enc_get47, List.drop_zero, hat, zz43, zrow]
              refine qC.of en21 ((back_calls d (by omega)).on _).here (by rfl) ?_
              simp only [go_sem, Nat.reduceAdd, Nat.reduceEqDiff, Nat.reduceLeDiff, true_and, enc_one, enc_len, enc_get43, enc_get47, List.drop_zero, hat, zz43, zrow]
              refine lateK.of (cs := [.slo true 5 ((((nestE i e).norm.pre.take k).map E.norm).map E.enc) (σ.length + 6)]) (late_app (m := k) ?_ ?_ ?_) ((src41 _).trans rfl) ?_ (enc_len _) (enc_one _) (by kernel_rfl) (by kernel_rfl) ?_ ?_ (by kernel_rfl) ?_
              · exact (app_get σ _ 6).trans rfl
              · simp [hpl]; omega
              · omega
              · rfl
              · exact (app_get σ _ 5).trans rfl
              · simp
              refine hK19 _ _ ?_; try clear hK19 K19
              conv => enter [5]; simp only [setL_cons, setL_nil, List.set_cons_zero, List.set_cons_succ]
              refine AW.regdl mixed false [87] (by kernel_rfl) (by rfl) fun K20 hK20 => ?_ -- region 17
              simp only [go_sem, Nat.reduceAdd, Nat.reduceEqDiff, Nat.reduceLeDiff, true_and, ProgM.enc, NodeM.enc, EqM.enc, VarM.enc, enc_one, enc_len, enc_get43, enc_get47, eqc_get81, eqc_get128, List.length_map, List.length_cons, List.all_cons, one_row, len_row, ba_beqL, List.drop_zero, hat, List.length_map, List.length_take]
              refine qC.of en11 ((rsize_calls (nestE i e) (by omega)).on _).here (by rfl) ?_
              simp only [go_sem, Nat.reduceAdd, Nat.reduceEqDiff, Nat.reduceLeDiff, true_and, ProgM.enc, NodeM.enc, EqM.enc, VarM.enc, enc_one, enc_len, enc_get43, enc_get47, eqc_get81, eqc_get128, List.length_map, List.length_cons, List.all_cons, one_row, len_row, ba_beqL, List.drop_zero, hat, List.length_map, List.length_take]
              refine hK20 _ ?_; try clear hK20 K20
              conv => enter [5]; simp only [setL_cons, setL_nil, List.set_cons_zero, List.set_cons_succ]
              refine AW.cond rfl (fun hc87 => ?_) (fun hc87 => ?_)
              · skip
                exfalso
                simp only [decide_eq_true_eq] at hc87
                omega
              · skip
                refine AW.skip ?_
                exact ⟨trivial, [.cells d.enc.cells], by simp [take_map_succ hd, aSplice, hpl]; omega⟩
            · intro hI r env0
              skip
              refine hK17 _ _ ?_; try clear hK17 K17
              conv => enter [6]; simp only [List.append_assoc, List.cons_append, List.nil_append, List.length_map, hpl, htf]
              refine AW.regl false [12] (by rfl) fun K21 hK21 => ?_ -- region 19
              simp only [go_sem, Nat.reduceAdd, Nat.reduceEqDiff, Nat.reduceLeDiff, true_and, ProgM.enc, NodeM.enc, EqM.enc, VarM.enc, enc_one, enc_len, enc_get43, enc_get47, eqc_get81, eqc_get128, List.length_map, List.length_cons, List.all_cons, one_row, len_row, ba_beqL, List.drop_zero]
              refine sC.ofR en22 (below_nil _ (nestE i e) (by omega)) (fun v' σ' hR => ?_)
              obtain ⟨rfl, rfl⟩ := hR
              simp only [go_sem, Nat.reduceAdd, Nat.reduceEqDiff, Nat.reduceLeDiff, true_and, ProgM.enc, NodeM.enc, EqM.enc, VarM.enc, enc_one, enc_len, enc_get43, enc_get47, eqc_get81, eqc_get128, List.length_map, List.length_cons, List.all_cons, one_row, len_row, ba_beqL, List.drop_zero]
              refine hK21 _ _ ?_; try clear hK21 K21
              conv => enter [5]; simp only [setL_cons, setL_nil, List.set_cons_zero, List.set_cons_succ]
              refine AW.seq_k fun K22 hK22 => ?_
              refine AW.regl false [94] (by rfl) fun K23 hK23 => ?_ -- region 20
              simp only [go_sem, Nat.reduceAdd, Nat.reduceEqDiff, Nat.reduceLeDiff, true_and, ProgM.enc, NodeM.enc, EqM.enc, VarM.enc, enc_one, enc_len, enc_get43, enc_get47, eqc_get81, eqc_get128, List.length_map, List.length_cons, List.all_cons, one_row, len_row, ba_beqL, List.drop_zero, List.length_map, hpl, pre_length, bne_self_eq_false]
              refine hK23 _ _ ?_; try clear hK23 K23
              conv => enter [5]; simp only [setL_cons, setL_nil, List.set_cons_zero, List.set_cons_succ]
              refine AW.cond rfl (fun hc94 => ?_) (fun hc94 => ?_)
              · skip
                exact absurd hc94 (by simp)
              · skip
                refine AW.skip ?_
                refine hK22 _ _ ?_; try clear hK22 K22
                refine AW.seq_k fun K24 hK24 => ?_
                refine AW.regl false [13] (by rfl) fun K25 hK25 => ?_ -- region 22
                simp only [go_sem, Nat.reduceAdd, Nat.reduceEqDiff, Nat.reduceLeDiff, true_and, ProgM.enc, NodeM.enc, EqM.enc, VarM.enc, enc_one, enc_len, enc_get43, enc_get47, eqc_get81, eqc_get128, List.length_map, List.length_cons, List.all_cons, one_row, len_row, ba_beqL, List.drop_zero]
                refine hK25 _ _ ?_; try clear hK25 K25
                conv => enter [5]; simp only [setL_cons, setL_nil, List.set_cons_zero, List.set_cons_succ]
                refine AW.block ?_
                refine AW.loop_wk (α := Nat) (fun j => [.any, .any, .any, .any, .any, .any, (.ref (σ.length + 2) 0), .any, (.ref (σ.length + 3) 0), .any, (.ref (σ.length + 5) 0), .any, (.slo true 5 ((nestE i e).pre.map E.enc) (σ.length + 9)), (.val (.int .i64 ((j : Nat) : Int))), .any, .any, .any, .any, .any, .any, .any, .any, .any, .any, .any, .any, .any, .any, .any, .any, .any, .any, .any, .any, .any, .any, .any, .any, .any, .any, .any, .any, .any, .any, .any, .any, .any, .any, .any, .any, .any, .any, .any, .any, .any, .any, .any, .any, .any, .any, .any, .any, .any, .any, .any, .any, .any, .any, .any, .any, .any, .any, .any, .any, .any, .any, .any, .any, .any, .any, .any, .any, .any, .any, .any, .any, .any, .any, .any, .any, .any, .any, .any, .any, .any, .any, .any, .any, .any, .any, .any, .any, .any, .any, .any, .any, .any, .any, .any, .any, .any, .any, .any, .any, .any, .any, .any, .any, .any, .any, .any, .any, .any, .any, .any, .any]) (fun j => σ ++ [.cells (E.enc (nestE i e)).cells, .cells (E.enc f).cells, .cells [.val (.bool false)], .cells (E.enc ((nestE i e).norm)).cells, .cells (E.enc ((nestE i e).norm)).cells, .cells [.slo true 5 (((nestE i e).norm.pre.map E.norm).map E.enc) (σ.length + 6)], .cap (nestE i e).size 5, .dfr, .loop r env0, .cap (nestE i e).size 5]) (fun j => (nestE i e).size - j) (fun j => j ≤ (nestE i e).size) 0 ?_ ?_
                · exact ⟨Nat.zero_le _, by simp [Wk], rfl⟩
                · intro j hi
                  refine AW.seq_k fun K26 hK26 => ?_
                  refine AW.regl false [98] (by rfl) fun K27 hK27 => ?_ -- region 23
                  simp only [go_sem, Nat.reduceAdd, Nat.reduceEqDiff, Nat.reduceLeDiff, true_and, ProgM.enc, NodeM.enc, EqM.enc, VarM.enc, enc_one, enc_len, enc_get43, enc_get47, eqc_get81, eqc_get128, List.length_map, List.length_cons, List.all_cons, one_row, len_row, ba_beqL, List.drop_zero, List.length_map, hpl]
                  refine hK27 _ _ ?_; try clear hK27 K27
                  conv => enter [5]; simp only [setL_cons, setL_nil, List.set_cons_zero, List.set_cons_succ]
                  refine AW.cond rfl (fun hc98 => ?_) (fun hc98 => ?_)
                  · skip
                    have hj1 : j < (nestE i e).size := by simpa using hc98
                    have hj2 : j < (nestE i e).norm.pre.length := by omega
                    have hj3 : j < (nestE i e).pre.length := by rw [pre_length]; omega
                    obtain ⟨x, hx⟩ : ∃ z, z = (nestE i e).norm.pre[j] := ⟨_, rfl⟩
                    obtain ⟨y, hy⟩ : ∃ z, z = (nestE i e).pre[j] := ⟨_, rfl⟩
                    have gx : (((nestE i e).norm.pre.map E.norm).map E.enc)[j]? = some x.norm.enc := by rw [hx, List.getElem?_map, List.getElem?_map, List.getElem?_eq_getElem hj2]; rfl
                    have gy : ((nestE i e).pre.map E.enc)[j]? = some y.enc := by rw [hy, List.getElem?_map, List.getElem?_eq_getElem hj3]; rfl
                    have hxs : x.norm.size ≤ 651 := by
                      rw [norm_size, hx]
                      exact Nat.le_trans (pre_size _ _ (mem_at hj2)) (by omega)
                    have hxy : x.norm.norm = y.norm := by
                      rw [hx, hy, norm_norm]
                      simp only [norm_pre, List.getElem_map, norm_norm]
                    have hq19 : APure prog Γ 19 [x.norm.enc, y.enc] (bool true) := by
                      have := rsame_calls (Γ := Γ) x.norm (by omega) y
                      rwa [decide_eq_true hxy] at this
                    refine AW.skip ?_
                    refine hK26 _ _ ?_; try clear hK26 K26
                    refine AW.seq_k fun K28 hK28 => ?_
                    refine AW.block ?_
                    refine AW.regdl mixed false [110] (by kernel_rfl) (by rfl) fun K29 hK29 => ?_ -- region 25
                    simp only [go_sem, Nat.reduceAdd, Nat.reduceEqDiff, Nat.reduceLeDiff, true_and, ProgM.enc, NodeM.enc, EqM.enc, VarM.enc, enc_one, enc_len, enc_get43, enc_get47, eqc_get81, eqc_get128, List.length_map, List.length_cons, List.all_cons, one_row, len_row, ba_beqL, List.drop_zero, List.length_map, at_slo gx, at_slo gy]
                    refine qC.of en19 (hq19.on _).here (by rfl) ?_
                    simp only [go_sem, Nat.reduceAdd, Nat.reduceEqDiff, Nat.reduceLeDiff, true_and, ProgM.enc, NodeM.enc, EqM.enc, VarM.enc, enc_one, enc_len, enc_get43, enc_get47, eqc_get81, eqc_get128, List.length_map, List.length_cons, List.all_cons, one_row, len_row, ba_beqL, List.drop_zero, List.length_map, at_slo gx, at_slo gy]
                    refine hK29 _ ?_; try clear hK29 K29
                    conv => enter [5]; simp only [setL_cons, setL_nil, List.set_cons_zero, List.set_cons_succ]
                    refine AW.cond rfl (fun hc110 => ?_) (fun hc110 => ?_)
                    · skip
                      exact absurd hc110 (by simp)
                    · skip
                      refine AW.skip ?_
                      refine hK28 _ _ ?_; try clear hK28 K28
                      refine AW.lastl false [13] (by rfl) fun K hK => ?_ -- region 24
                      simp only [go_sem, Nat.reduceAdd, Nat.reduceEqDiff, Nat.reduceLeDiff, true_and, ProgM.enc, NodeM.enc, EqM.enc, VarM.enc, enc_one, enc_len, enc_get43, enc_get47, eqc_get81, eqc_get128, List.length_map, List.length_cons, List.all_cons, one_row, len_row, ba_beqL, List.drop_zero]
                      refine hK _ _ fun env' hw => ?_
                      simp only [setL_cons, setL_nil, List.set_cons_zero, List.set_cons_succ] at hw
                      refine ⟨j + 1, by omega, by omega, ?_, rfl⟩
                      refine hw.trans ?_
                      simp [Wk, wrap_succ hj1 hlg]
                      try omega
                  · skip
                    have hj1 : j = (nestE i e).size := by
                      have : ¬ j < (nestE i e).size := by simpa using hc98
                      omega
                    refine AW.exit ?_
                    refine hK24 _ _ ?_; try clear hK24 K24
                    refine AW.regl false [14] (by rfl) fun K30 hK30 => ?_ -- region 27
                    simp only [go_sem, Nat.reduceAdd, Nat.reduceEqDiff, Nat.reduceLeDiff, true_and, ProgM.enc, NodeM.enc, EqM.enc, VarM.enc, enc_one, enc_len, enc_get43, enc_get47, eqc_get81, eqc_get128, List.length_map, List.length_cons, List.all_cons, one_row, len_row, ba_beqL, List.drop_zero]
                    refine hK30 _ _ ?_; try clear hK30 K30
                    conv => enter [5]; simp only [setL_cons, setL_nil, List.set_cons_zero, List.set_cons_succ, upd_none, upd_at]
                    refine AW.seq_k fun K31 hK31 => ?_
                    refine AW.regl false [112] (by rfl) fun K32 hK32 => ?_ -- region 28
                    simp only [go_sem, Nat.reduceAdd, Nat.reduceEqDiff, Nat.reduceLeDiff, true_and, ProgM.enc, NodeM.enc, EqM.enc, VarM.enc, enc_one, enc_len, enc_get43, enc_get47, eqc_get81, eqc_get128, List.length_map, List.length_cons, List.all_cons, one_row, len_row, ba_beqL, List.drop_zero]
                    refine sC.ofR en20 (walk_fn _ (nestE i e).norm) (fun v' σ' hR => ?_)
                    obtain ⟨rfl, rfl⟩ := hR
                    simp only [go_sem, Nat.reduceAdd, Nat.reduceEqDiff, Nat.reduceLeDiff, true_and, ProgM.enc, NodeM.enc, EqM.enc, VarM.enc, enc_one, enc_len, enc_get43, enc_get47, eqc_get81, eqc_get128, List.length_map, List.length_cons, List.all_cons, one_row, len_row, ba_beqL, List.drop_zero]
                    refine hK32 _ _ ?_; try clear hK32 K32
                    conv => enter [5]; simp only [setL_cons, setL_nil, List.set_cons_zero, List.set_cons_succ]
                    refine AW.block ?_
                    refine AW.range (f := 53) (caps := [.ref (σ.length + 11) 0]) (σ0 := (fun j => σ ++ [.cells (nestE i e).enc.cells, .cells f.enc.cells, .cells [bool false], .cells (nestE i e).norm.enc.cells, .cells (nestE i e).norm.enc.cells, .cells [.slo true 5 (((nestE i e).norm.pre.map E.norm).map E.enc) (σ.length + 6)], .cap (nestE i e).size 5, .dfr, .loop r env0, .cap (nestE i e).size 5, .cells [i64 (j : Nat)], .cells (nestE i e).norm.enc.cells]) 0) (xs := (nestE i e).norm.pre.map fun d => [d.enc]) (fun j => σ ++ [.cells (nestE i e).enc.cells, .cells f.enc.cells, .cells [bool false], .cells (nestE i e).norm.enc.cells, .cells (nestE i e).norm.enc.cells, .cells [.slo true 5 (((nestE i e).norm.pre.map E.norm).map E.enc) (σ.length + 6)], .cap (nestE i e).size 5, .dfr, .loop r env0, .cap (nestE i e).size 5, .cells [i64 (j : Nat)], .cells (nestE i e).norm.enc.cells]) (fun j => j < 2) (fun ex σx => ex = .exit 6 ∧ 2 ≤ (nestE i e).size ∧ σx = (fun j => σ ++ [.cells (nestE i e).enc.cells, .cells f.enc.cells, .cells [bool false], .cells (nestE i e).norm.enc.cells, .cells (nestE i e).norm.enc.cells, .cells [.slo true 5 (((nestE i e).norm.pre.map E.norm).map E.enc) (σ.length + 6)], .cap (nestE i e).size 5, .dfr, .loop r env0, .cap (nestE i e).size 5, .cells [i64 (j : Nat)], .cells (nestE i e).norm.enc.cells]) 2) ?_ en53 ?_ ?_ ?_ ?_ ?_ ?_ ?_ ?_ ?_ ?_ ?_
                    · rfl
                    · exact walk_iter (nestE i e).norm (by omega) (σ.length + 11) _ ((app_get σ _ 11).trans rfl)
                    · exact by decide
                    · exact ⟨[], by simp⟩
                    · exact by simp
                    · exact fun _ => by simp
                    · exact fun j _ => bel_app' σ (bel_mid ([.cells (nestE i e).enc.cells, .cells f.enc.cells, .cells [bool false], .cells (nestE i e).norm.enc.cells, .cells (nestE i e).norm.enc.cells, .cells [.slo true 5 (((nestE i e).norm.pre.map E.norm).map E.enc) (σ.length + 6)], .cap (nestE i e).size 5, .dfr, .loop r env0, .cap (nestE i e).size 5]) [.cells (nestE i e).norm.enc.cells] rfl)
                    · exact fun ex σx h => ⟨.inr ⟨6, h.1⟩, by rw [h.2.2]; simp, by rw [h.2.2]; exact bel_app' σ (bel_mid ([.cells (nestE i e).enc.cells, .cells f.enc.cells, .cells [bool false], .cells (nestE i e).norm.enc.cells, .cells (nestE i e).norm.enc.cells, .cells [.slo true 5 (((nestE i e).norm.pre.map E.norm).map E.enc) (σ.length + 6)], .cap (nestE i e).size 5, .dfr, .loop r env0, .cap (nestE i e).size 5]) [.cells (nestE i e).norm.enc.cells] rfl)⟩
                    · exact fun x hx => by obtain ⟨d, _, rfl⟩ := List.mem_map.1 hx; rfl
                    · intro lp k x hx hI τ
                      obtain ⟨d, hd, rfl⟩ := map_at hx
                      have hk : k < (nestE i e).size := by have := (List.getElem?_eq_some_iff.1 hd).1; omega
                      simp only [envp, List.set_cons_zero, List.set_cons_succ]
                      conv => enter [6]; simp only [List.append_assoc, List.cons_append, List.nil_append, List.append_nil]
                      refine AW.skip ?_
                      refine ⟨rfl, [], by simp, fun τ' hτ => ?_⟩
                      conv => enter [6]; simp only [List.append_assoc, List.cons_append, List.nil_append, List.append_nil]
                      refine AW.block ?_
                      refine AW.regl false [] (by rfl) fun K33 hK33 => ?_ -- region 29
                      simp only [go_sem, Nat.reduceAdd, Nat.reduceEqDiff, Nat.reduceLeDiff, true_and, ProgM.enc, NodeM.enc, EqM.enc, VarM.enc, enc_one, enc_len, enc_get43, enc_get47, eqc_get81, eqc_get128, List.length_map, List.length_cons, List.all_cons, one_row, len_row, ba_beqL, List.drop_zero, wrap_add1 (a := k) (by omega)]
                      refine hK33 _ _ ?_; try clear hK33 K33
                      conv => enter [5]; simp only [setL_cons, setL_nil, List.set_cons_zero, List.set_cons_succ, upd_none, upd_at]
                      refine AW.regl false [117] (by rfl) fun K34 hK34 => ?_ -- region 30
                      simp only [go_sem, Nat.reduceAdd, Nat.reduceEqDiff, Nat.reduceLeDiff, true_and, ProgM.enc, NodeM.enc, EqM.enc, VarM.enc, enc_one, enc_len, enc_get43, enc_get47, eqc_get81, eqc_get128, List.length_map, List.length_cons, List.all_cons, one_row, len_row, ba_beqL, List.drop_zero]
                      refine hK34 _ _ ?_; try clear hK34 K34
                      conv => enter [5]; simp only [setL_cons, setL_nil, List.set_cons_zero, List.set_cons_succ]
                      refine AW.cond rfl (fun hc117 => ?_) (fun hc117 => ?_)
                      · skip
                        refine AW.exit ?_
                        simp only [beq_iff_eq] at hc117
                        have h1 : k = 1 := by omega
                        subst h1
                        exact ⟨_, [], ⟨rfl, by omega, rfl⟩, by simp⟩
                      · skip
                        refine AW.skip ?_
                        simp only [beq_eq_false_iff_ne, ne_eq] at hc117
                        exact ⟨by omega, [], by simp⟩
                    · intro hI r2 env2
                      simp only [List.length_map, hpl] at hI
                      have hmin : aMin (.val (.int .i64 2)) (.val (.int .i64 (((nestE i e).size : Nat) : Int))) = some (.val (.int .i64 (((nestE i e).size : Nat) : Int))) := by
                        simp only [aMin]
                        rw [if_pos (by omega)]
                      refine hK31 _ _ ?_; try clear hK31 K31
                      conv => enter [6]; simp only [List.append_assoc, List.cons_append, List.nil_append, List.length_map, hpl]
                      refine AW.regl false [] (by rfl) fun K35 hK35 => ?_ -- region 31
                      simp only [go_sem, Nat.reduceAdd, Nat.reduceEqDiff, Nat.reduceLeDiff, true_and, enc_one, enc_len, enc_get43, enc_get47, List.drop_zero, List.length_map, hpl, hmin, ntwo, Option.map_some, bin_beql tyBool4, beq_self_eq_true, Bool.true_and]
                      refine sC.of en23 ((aawake_calls hΓ).on _).here (by rfl) ?_
                      simp only [go_sem, Nat.reduceAdd, Nat.reduceEqDiff, Nat.reduceLeDiff, true_and, enc_one, enc_len, enc_get43, enc_get47, List.drop_zero, List.length_map, hpl, hmin, ntwo, Option.map_some, bin_beql tyBool4, beq_self_eq_true, Bool.true_and]
                      refine hK35 _ _ ?_; try clear hK35 K35
                      conv => enter [5]; simp only [setL_cons, setL_nil, List.set_cons_zero, List.set_cons_succ, upd_none, upd_at]
                      exact AW.ret ⟨.inr rfl, _, ret_cell (v := bool true) rfl (by simp only [go_sem, List.append_assoc, List.cons_append, List.nil_append]), by simp, .keep rfl⟩
                    · rintro ex σx ⟨rfl, h2, rfl⟩ r2 env2
                      have hmin : aMin (.val (.int .i64 2)) (.val (.int .i64 (((nestE i e).size : Nat) : Int))) = some (.val (.int .i64 2)) := by
                        simp only [aMin]
                        rw [if_neg (by omega)]
                      refine hK31 _ _ ?_; try clear hK31 K31
                      conv => enter [6]; simp only [List.append_assoc, List.cons_append, List.nil_append, List.length_map, hpl]
                      refine AW.regl false [] (by rfl) fun K36 hK36 => ?_ -- region 31
                      simp only [go_sem, Nat.reduceAdd, Nat.reduceEqDiff, Nat.reduceLeDiff, true_and, enc_one, enc_len, enc_get43, enc_get47, List.drop_zero, List.length_map, hpl, hmin, ntwo, Option.map_some, bin_beql tyBool4, beq_self_eq_true, Bool.true_and]
                      refine sC.of en23 ((aawake_calls hΓ).on _).here (by rfl) ?_
                      simp only [go_sem, Nat.reduceAdd, Nat.reduceEqDiff, Nat.reduceLeDiff, true_and, enc_one, enc_len, enc_get43, enc_get47, List.drop_zero, List.length_map, hpl, hmin, ntwo, Option.map_some, bin_beql tyBool4, beq_self_eq_true, Bool.true_and]
                      refine hK36 _ _ ?_; try clear hK36 K36
                      conv => enter [5]; simp only [setL_cons, setL_nil, List.set_cons_zero, List.set_cons_succ, upd_none, upd_at]
                      exact AW.ret ⟨.inr rfl, _, ret_cell (v := bool true) rfl (by simp only [go_sem, List.append_assoc, List.cons_append, List.nil_append]), by simp, .keep rfl⟩
            · exact fun _ _ h => h.elim
end A
end Go.Proofs.Tryd
