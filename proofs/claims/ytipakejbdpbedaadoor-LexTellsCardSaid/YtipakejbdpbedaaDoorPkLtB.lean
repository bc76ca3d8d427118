import Derived.Test.YtipakejbdpbedaaDoorPkLtA
/-! Lexing: function 27. -/
namespace Go.Proofs.Tryd
set_option linter.unusedSimpArgs false
set_option linter.unusedVariables false
open Go Go.Proofs.Ev
namespace Lx
variable {Γ : List (Nat × List AV)} {w : AV} {mx : Int} {te : TypeId}
set_option maxRecDepth 100000 in
theorem number_ok {σ : Sto} {o : Nat} (ho : o < σ.length) {S : List UInt8} (hS : S.length ≤ 20000) {out : AV} (hbo : out.bel σ.length = true) (p n : Nat) (hp : p + n ≤ S.length) (h0n : 0 < n) (hdg : digs ((S.drop p).take n)) {x : Nat} (hv : num ((S.drop p).take n) 0 = some x) : ACalls prog (GL w mx te) 27 [.ref o 0, i64 ((n : Nat) : Int)] (ls σ o (LX S p out)) (fun v σ' => σ' = ls σ o (LX S (p + n) out) ∧ v = .tup [tokA S 3 p n ((x : Nat) : Int), i64 0]) := by
  refine ACalls.ofT func27 rfl ?_
  simp only [ntmps27, List.length_cons, List.length_nil, Nat.reduceAdd, Nat.reduceSub, List.replicate_succ, List.replicate_zero, List.cons_append, List.nil_append]
  have h0 := fun c => ls_get ho c
  have h1 := fun c l => ls_getl ho c l
  have s0 := fun c c' => ls_set σ o c c'
  have s1 := fun c c' l => ls_setl ho c c' l
  have hpl := place_le hS
  have hn : n ≤ (S.drop p).length := by rw [List.length_drop]; omega
  have hl : ((S.drop p).take n).length = n := by rw [List.length_take]; omega
  have hne : (S.drop p).take n ≠ [] := fun h => by rw [h] at hl; simp at hl; omega
  refine AW.regl false [4, 5] (by rfl) fun K1 hK1 => ?_ -- region 0
  simp only [go_sem, Nat.reduceAdd, Nat.reduceEqDiff, Nat.reduceLeDiff, true_and, h0, h1, s0, s1, ls_geta, ls_geta0, ls_seta, ls_seta0, bs_size, Option.map_some, Option.map_none, ls_len]
  refine hK1 _ _ ?_; try clear hK1 K1
  conv => enter [5]; simp only [setL_cons, setL_nil, List.set_cons_zero, List.set_cons_succ]
  refine AW.regl false [6, 7] (by rfl) fun K2 hK2 => ?_ -- region 1
  simp only [go_sem, Nat.reduceAdd, Nat.reduceEqDiff, Nat.reduceLeDiff, true_and, h0, h1, s0, s1, ls_geta, ls_geta0, ls_seta, ls_seta0, bs_size, Option.map_some, Option.map_none, ls_len, sls_hi _ .i64 hn, aExtract]
  refine sC.of en35 ((parse_ok (bs ((S.drop p).take n)) (by rw [bs_size, hl]; omega) hdg hne hv).on _).here (by rfl) ?_
  simp only [go_sem, Nat.reduceAdd, Nat.reduceEqDiff, Nat.reduceLeDiff, true_and, h0, h1, s0, s1, ls_geta, ls_geta0, ls_seta, ls_seta0, bs_size, Option.map_some, Option.map_none, ls_len, sls_hi _ .i64 hn, aExtract]
  refine hK2 _ _ ?_; try clear hK2 K2
  conv => enter [5]; simp only [setL_cons, setL_nil, List.set_cons_zero, List.set_cons_succ]
  refine AW.seq_k fun K3 hK3 => ?_
  refine AW.ifnil (by kernel_rfl) (.inl ⟨rfl, rfl⟩) rfl rfl ?_ -- region 2
  conv => enter [5]; simp only [List.set_cons_zero, List.set_cons_succ]
  refine AW.cond rfl (fun hc20 => ?_) (fun hc20 => ?_)
  · skip
    cases hc20
  · skip
    refine AW.skip ?_
    refine hK3 _ _ ?_; try clear hK3 K3
    refine AW.regl false [8] (by rfl) fun K5 hK5 => ?_ -- region 4
    simp only [go_sem, Nat.reduceAdd, Nat.reduceEqDiff, Nat.reduceLeDiff, true_and, h0, h1, s0, s1, ls_geta, ls_geta0, ls_seta, ls_seta0, bs_size, Option.map_some, Option.map_none, ls_len]
    refine hK5 _ _ ?_; try clear hK5 K5
    conv => enter [5]; simp only [setL_cons, setL_nil, List.set_cons_zero, List.set_cons_succ, upd_none, upd_at]
    refine AW.regch mixed [ls σ o (LX S p out) ++ [.cells [.val (.int .i64 0), .val (.string ⟨#[]⟩), .val (.int .i64 0), .val (.int .i64 0), .val (.int .i64 0)], .cells [.val (.int .i64 ((place S p).1)), .val (.int .i64 ((place S p).2))]], ls σ o (LX S (p + n) out) ++ [.cells [i64 0, str ⟨#[]⟩, i64 0, i64 0, i64 0], .cells [i64 (place S p).1, i64 (place S p).2]], ls σ o (LX S (p + n) out) ++ [.cells [i64 3, str (bs ((S.drop p).take n)), i64 ((x : Nat) : Int), i64 (place S p).1, i64 (place S p).2], .cells [i64 (place S p).1, i64 (place S p).2]]] [(0, 0, true), (0, 0, true), (0, 0, false), (0, 1, true), (0, 1, true), (1, 1, true), (0, 0, false), (2, 2, true)] [5] (by kernel_rfl) (by rfl) (by kernel_rfl) (by rfl) fun K6 hK6 => ?_ -- region 5
    simp only [go_sem, Nat.reduceAdd, Nat.reduceEqDiff, Nat.reduceLeDiff, true_and, h0, h1, s0, s1, ls_geta, ls_geta0, ls_seta, ls_seta0, bs_size, Option.map_some, Option.map_none, ls_len, List.append_assoc, List.cons_append, List.nil_append]
    refine xC.of en18 (take_at ho hS hbo p n hp _) (by rfl) ?_
    simp only [go_sem, Nat.reduceAdd, Nat.reduceEqDiff, Nat.reduceLeDiff, true_and, h0, h1, s0, s1, ls_geta, ls_geta0, ls_seta, ls_seta0, bs_size, Option.map_some, Option.map_none, ls_len, List.append_assoc, List.cons_append, List.nil_append]
    refine xE.of (by first | rfl | (simp; done) | (simp; repeat' constructor)) ?_
    simp only [go_sem, Nat.reduceAdd, Nat.reduceEqDiff, Nat.reduceLeDiff, true_and, h0, h1, s0, s1, ls_geta, ls_geta0, ls_seta, ls_seta0, bs_size, Option.map_some, Option.map_none, ls_len, List.append_assoc, List.cons_append, List.nil_append]
    refine hK6 _ ?_; try clear hK6 K6
    conv => enter [5]; simp only [setL_cons, setL_nil, List.set_cons_zero, List.set_cons_succ]
    show AW _ _ _ _ _ (ls σ o (LX S (p + n) out) ++ [.cells [i64 3, str (bs ((S.drop p).take n)), i64 ((x : Nat) : Int), i64 (place S p).1, i64 (place S p).2], .cells [i64 (place S p).1, i64 (place S p).2]]) _
    exact AW.ret ⟨.inr rfl, _, ret_ct (v := tokA S 3 p n ((x : Nat) : Int)) rfl (by simp only [go_sem, ls_geta0, List.append_assoc, List.cons_append, List.nil_append]) rfl, ls σ o (LX S (p + n) out), _, rfl, by simp only [ls_len], fun j a h => ls_keep (lx_bel (by first | exact hbo | (rw [ls_len]; exact hbo))) j a h, rfl, rfl, rfl⟩
set_option maxRecDepth 100000 in
theorem number_bad {σ : Sto} {o : Nat} (ho : o < σ.length) {S : List UInt8} (hS : S.length ≤ 20000) {out : AV} (hbo : out.bel σ.length = true) (p n : Nat) (hp : p + n ≤ S.length) (h0n : 0 < n) (hdg : digs ((S.drop p).take n)) (hv : num ((S.drop p).take n) 0 = none) : ACalls prog (GL w mx te) 27 [.ref o 0, i64 ((n : Nat) : Int)] (ls σ o (LX S p out)) (fun v σ' => σ' = ls σ o (LX S p out) ∧ v = .tup [tok0, i64 4]) := by
  refine ACalls.ofT func27 rfl ?_
  simp only [ntmps27, List.length_cons, List.length_nil, Nat.reduceAdd, Nat.reduceSub, List.replicate_succ, List.replicate_zero, List.cons_append, List.nil_append]
  have h0 := fun c => ls_get ho c
  have h1 := fun c l => ls_getl ho c l
  have s0 := fun c c' => ls_set σ o c c'
  have s1 := fun c c' l => ls_setl ho c c' l
  have hpl := place_le hS
  have hn : n ≤ (S.drop p).length := by rw [List.length_drop]; omega
  have hl : ((S.drop p).take n).length = n := by rw [List.length_take]; omega
  have hne : (S.drop p).take n ≠ [] := fun h => by rw [h] at hl; simp at hl; omega
  refine AW.regl false [4, 5] (by rfl) fun K1 hK1 => ?_ -- region 0
  simp only [go_sem, Nat.reduceAdd, Nat.reduceEqDiff, Nat.reduceLeDiff, true_and, h0, h1, s0, s1, ls_geta, ls_geta0, ls_seta, ls_seta0, bs_size, Option.map_some, Option.map_none, ls_len]
  refine hK1 _ _ ?_; try clear hK1 K1
  conv => enter [5]; simp only [setL_cons, setL_nil, List.set_cons_zero, List.set_cons_succ]
  refine AW.regl false [6, 7] (by rfl) fun K2 hK2 => ?_ -- region 1
  simp only [go_sem, Nat.reduceAdd, Nat.reduceEqDiff, Nat.reduceLeDiff, true_and, h0, h1, s0, s1, ls_geta, ls_geta0, ls_seta, ls_seta0, bs_size, Option.map_some, Option.map_none, ls_len, sls_hi _ .i64 hn, aExtract]
  refine sC.of en35 ((parse_bad (bs ((S.drop p).take n)) (by rw [bs_size, hl]; omega) hdg hne hv).on _).here (by rfl) ?_
  simp only [go_sem, Nat.reduceAdd, Nat.reduceEqDiff, Nat.reduceLeDiff, true_and, h0, h1, s0, s1, ls_geta, ls_geta0, ls_seta, ls_seta0, bs_size, Option.map_some, Option.map_none, ls_len, sls_hi _ .i64 hn, aExtract]
  refine hK2 _ _ ?_; try clear hK2 K2
  conv => enter [5]; simp only [setL_cons, setL_nil, List.set_cons_zero, List.set_cons_succ]
  refine AW.seq_k fun K3 hK3 => ?_
  refine AW.ifnil (by kernel_rfl) (.inr ⟨_, _, rfl, rfl⟩) rfl rfl ?_ -- region 2
  conv => enter [5]; simp only [List.set_cons_zero, List.set_cons_succ]
  refine AW.cond rfl (fun hc20 => ?_) (fun hc20 => ?_)
  · skip
    refine AW.regl false [5] (by rfl) fun K5 hK5 => ?_ -- region 3
    simp only [go_sem, Nat.reduceAdd, Nat.reduceEqDiff, Nat.reduceLeDiff, true_and, h0, h1, s0, s1, ls_geta, ls_geta0, ls_seta, ls_seta0, bs_size, Option.map_some, Option.map_none, ls_len]
    refine hK5 _ _ ?_; try clear hK5 K5
    conv => enter [5]; simp only [setL_cons, setL_nil, List.set_cons_zero, List.set_cons_succ]
    exact AW.ret ⟨.inr rfl, _, ret_ct (v := tok0) rfl (by simp only [go_sem, ls_geta0, List.append_assoc, List.cons_append, List.nil_append] <;> rfl) rfl, ls σ o (LX S p out), _, rfl, by simp only [ls_len], fun j a h => ls_keep (lx_bel (by first | exact hbo | (rw [ls_len]; exact hbo))) j a h, rfl, rfl, rfl⟩
  · skip
    cases hc20
theorem number_ok_at {σ : Sto} {o : Nat} (ho : o < σ.length) {S : List UInt8} (hS : S.length ≤ 20000) {out : AV} (hbo : out.bel σ.length = true) (p n : Nat) (hp : p + n ≤ S.length) (h0n : 0 < n) (hdg : digs ((S.drop p).take n)) {x : Nat} (hv : num ((S.drop p).take n) 0 = some x) (l : Sto) : ACalls prog (GL w mx te) 27 [.ref o 0, i64 ((n : Nat) : Int)] (ls σ o (LX S p out) ++ l) (fun v σ' => σ' = ls σ o (LX S (p + n) out) ++ l ∧ v = .tup [tokA S 3 p n ((x : Nat) : Int), i64 0]) := by
  have := number_ok (w := w) (mx := mx) (te := te) (σ := σ ++ l) (o := o) (by rw [List.length_append]; omega) hS (out := out) (bel_up' hbo (by rw [List.length_append]; omega)) p n hp h0n hdg hv
  simp only [ls_app ho] at this
  exact this
theorem number_bad_at {σ : Sto} {o : Nat} (ho : o < σ.length) {S : List UInt8} (hS : S.length ≤ 20000) {out : AV} (hbo : out.bel σ.length = true) (p n : Nat) (hp : p + n ≤ S.length) (h0n : 0 < n) (hdg : digs ((S.drop p).take n)) (hv : num ((S.drop p).take n) 0 = none) (l : Sto) : ACalls prog (GL w mx te) 27 [.ref o 0, i64 ((n : Nat) : Int)] (ls σ o (LX S p out) ++ l) (fun v σ' => σ' = ls σ o (LX S p out) ++ l ∧ v = .tup [tok0, i64 4]) := by
  have := number_bad (w := w) (mx := mx) (te := te) (σ := σ ++ l) (o := o) (by rw [List.length_append]; omega) hS (out := out) (bel_up' hbo (by rw [List.length_append]; omega)) p n hp h0n hdg hv
  simp only [ls_app ho] at this
  exact this
theorem number_next {σ : Sto} {o : Nat} (ho : o < σ.length) {S : List UInt8} (hS : S.length ≤ 20000) {out : AV} (hbo : out.bel σ.length = true) (p : Nat) {c : UInt8} {r : List UInt8} (hr : S.drop p = c :: r) (hL : ¬ A.letter c = true) (hD : A.digit c = true) (l : Sto) : ACalls prog (GL w mx te) 27 [.ref o 0, i64 ((run A.digit (S.drop p) : Nat) : Int)] (ls σ o (LX S p out) ++ l) (fun v σ' => ∃ k s x a b e q, σ' = ls σ o (LX S q out) ++ l ∧ v = .tup [.agg [i64 k, str s, i64 x, i64 a, i64 b], i64 e] ∧ NextF S p (.agg [i64 k, str s, i64 x, i64 a, i64 b]) e q) := by
  have hp : p + run A.digit (S.drop p) ≤ S.length := by
    have h1 := run_le A.digit (S.drop p)
    have h2 : (S.drop p).length = r.length + 1 := by rw [hr]; rfl
    rw [List.length_drop] at h1 h2
    omega
  have h0 : 0 < run A.digit (S.drop p) := by rw [hr]; exact run_pos hD
  cases hv : num ((S.drop p).take (run A.digit (S.drop p))) 0 with
  | some x =>
    refine (number_ok_at ho hS hbo p _ hp h0 (digs_run _) hv l).mono ?_
    rintro v σ' ⟨rfl, rfl⟩
    exact ⟨_, _, _, _, _, _, _, rfl, rfl, next_ok hr hL hD hv⟩
  | none =>
    refine (number_bad_at ho hS hbo p _ hp h0 (digs_run _) hv l).mono ?_
    rintro v σ' ⟨rfl, rfl⟩
    exact ⟨_, _, _, _, _, _, _, rfl, rfl, next_bad hr hL hD hv⟩
end Lx
end Go.Proofs.Tryd
/-! Lexing: function 10. -/
namespace Go.Proofs.Tryd
set_option linter.unusedSimpArgs false
set_option linter.unusedVariables false
open Go Go.Proofs.Ev
namespace Lx
variable {Γ : List (Nat × List AV)} {w : AV} {mx : Int} {te : TypeId}
set_option maxRecDepth 100000 in
theorem next_calls (hΓ : A.Words (GL w mx te)) {σ : Sto} {o : Nat} (ho : o < σ.length) {S : List UInt8} (hS : S.length ≤ 20000) {out : AV} (hbo : out.bel σ.length = true) (p : Nat) (hp : p < S.length) : ACalls prog (GL w mx te) 10 [.ref o 0] (ls σ o (LX S p out)) (fun v σ' => ∃ u e q, σ' = ls σ o (LX S q out) ∧ v = .tup [u, i64 e] ∧ NextF S p u e q) := by
  refine ACalls.ofT func10 rfl ?_
  simp only [ntmps10, List.length_cons, List.length_nil, Nat.reduceAdd, Nat.reduceSub, List.replicate_succ, List.replicate_zero, List.cons_append, List.nil_append]
  have h0 := fun c => ls_get ho c
  have h1 := fun c l => ls_getl ho c l
  have s0 := fun c c' => ls_set σ o c c'
  have s1 := fun c c' l => ls_setl ho c c' l
  have hpl := place_le hS
  obtain ⟨c, r', hr⟩ : ∃ c r', S.drop p = c :: r' := ⟨_, _, List.drop_eq_getElem_cons hp⟩
  have hcr : (S.drop p)[0]? = some c := by rw [hr]; rfl
  have hrn := run_le nameC (S.drop p)
  rw [List.length_drop] at hrn
  refine AW.regl false [2, 3] (by rfl) fun K1 hK1 => ?_ -- region 0
  simp only [go_sem, Nat.reduceAdd, Nat.reduceEqDiff, Nat.reduceLeDiff, true_and, h0, h1, s0, s1, ls_geta, ls_geta0, ls_seta, ls_seta0, bs_size, Option.map_some, Option.map_none, ls_len]
  refine hK1 _ _ ?_; try clear hK1 K1
  conv => enter [5]; simp only [setL_cons, setL_nil, List.set_cons_zero, List.set_cons_succ]
  refine AW.seq_k fun K2 hK2 => ?_
  refine AW.regl false [13] (by rfl) fun K3 hK3 => ?_ -- region 1
  simp only [go_sem, Nat.reduceAdd, Nat.reduceEqDiff, Nat.reduceLeDiff, true_and, h0, h1, s0, s1, ls_geta, ls_geta0, ls_seta, ls_seta0, bs_size, Option.map_some, Option.map_none, ls_len, idx0 hcr]
  refine sC.of en23 ((lletter_calls c).on _).here (by rfl) ?_
  simp only [go_sem, Nat.reduceAdd, Nat.reduceEqDiff, Nat.reduceLeDiff, true_and, h0, h1, s0, s1, ls_geta, ls_geta0, ls_seta, ls_seta0, bs_size, Option.map_some, Option.map_none, ls_len, idx0 hcr]
  refine hK3 _ _ ?_; try clear hK3 K3
  conv => enter [5]; simp only [setL_cons, setL_nil, List.set_cons_zero, List.set_cons_succ]
  refine AW.cond rfl (fun hc13 => ?_) (fun hc13 => ?_)
  · skip
    have hL : A.letter c = true := hc13
    refine AW.regl false [3] (by rfl) fun K4 hK4 => ?_ -- region 2
    simp only [go_sem, Nat.reduceAdd, Nat.reduceEqDiff, Nat.reduceLeDiff, true_and, h0, h1, s0, s1, ls_geta, ls_geta0, ls_seta, ls_seta0, bs_size, Option.map_some, Option.map_none, ls_len, aExtract]
    refine sC.of en20 (((row_calls ho hS hbo p 25 en25 _ namec_calls).more _)).here (by rfl) ?_
    simp only [go_sem, Nat.reduceAdd, Nat.reduceEqDiff, Nat.reduceLeDiff, true_and, h0, h1, s0, s1, ls_geta, ls_geta0, ls_seta, ls_seta0, bs_size, Option.map_some, Option.map_none, ls_len, aExtract]
    refine sC.ofR en24 (name_at hΓ ho hS hbo p _ (by omega) _) (fun v' σ' hR => ?_)
    obtain ⟨k, e, q, rfl, rfl, hf⟩ := hR
    simp only [go_sem, Nat.reduceAdd, Nat.reduceEqDiff, Nat.reduceLeDiff, true_and, h0, h1, s0, s1, ls_geta, ls_geta0, ls_seta, ls_seta0, bs_size, Option.map_some, Option.map_none, ls_len, aExtract]
    refine hK4 _ _ ?_; try clear hK4 K4
    conv => enter [5]; simp only [setL_cons, setL_nil, List.set_cons_zero, List.set_cons_succ]
    exact AW.ret ⟨.inr rfl, _, ret_ct (v := tokA S k p (run nameC (S.drop p)) 0) rfl (by simp only [go_sem, ls_geta0, List.append_assoc, List.cons_append, List.nil_append] <;> rfl) rfl, ls σ o (LX S q out), _, rfl, by simp only [ls_len], fun j a h => ls_keep (lx_bel (by first | exact hbo | (rw [ls_len]; exact hbo))) j a h, rfl, ⟨_, _, _, rfl, rfl, next_name hr hL hf⟩⟩
  · skip
    have hL : ¬ A.letter c = true := ne_true_of_eq_false hc13
    refine AW.skip ?_
    refine hK2 _ _ ?_; try clear hK2 K2
    refine AW.seq_k fun K5 hK5 => ?_
    refine AW.regl false [4] (by rfl) fun K6 hK6 => ?_ -- region 3
    simp only [go_sem, Nat.reduceAdd, Nat.reduceEqDiff, Nat.reduceLeDiff, true_and, h0, h1, s0, s1, ls_geta, ls_geta0, ls_seta, ls_seta0, bs_size, Option.map_some, Option.map_none, ls_len]
    refine sC.of en20 (((row_calls ho hS hbo p 26 en26 _ ldigit_calls).more _)).here (by rfl) ?_
    simp only [go_sem, Nat.reduceAdd, Nat.reduceEqDiff, Nat.reduceLeDiff, true_and, h0, h1, s0, s1, ls_geta, ls_geta0, ls_seta, ls_seta0, bs_size, Option.map_some, Option.map_none, ls_len]
    refine hK6 _ _ ?_; try clear hK6 K6
    conv => enter [5]; simp only [setL_cons, setL_nil, List.set_cons_zero, List.set_cons_succ]
    refine AW.regl false [23] (by rfl) fun K7 hK7 => ?_ -- region 4
    simp only [go_sem, Nat.reduceAdd, Nat.reduceEqDiff, Nat.reduceLeDiff, true_and, h0, h1, s0, s1, ls_geta, ls_geta0, ls_seta, ls_seta0, bs_size, Option.map_some, Option.map_none, ls_len]
    refine hK7 _ _ ?_; try clear hK7 K7
    conv => enter [5]; simp only [setL_cons, setL_nil, List.set_cons_zero, List.set_cons_succ]
    refine AW.cond rfl (fun hc23 => ?_) (fun hc23 => ?_)
    · skip
      have hD : A.digit c = true := by
        have h := hc23
        simp at h
        exact digit_run (r := r').2 (by rw [← hr]; omega)
      refine AW.regl false [3] (by rfl) fun K8 hK8 => ?_ -- region 5
      simp only [go_sem, Nat.reduceAdd, Nat.reduceEqDiff, Nat.reduceLeDiff, true_and, h0, h1, s0, s1, ls_geta, ls_geta0, ls_seta, ls_seta0, bs_size, Option.map_some, Option.map_none, ls_len, aExtract]
      refine sC.ofR en27 (number_next ho hS hbo p hr hL hD _) (fun v' σ' hR => ?_)
      obtain ⟨k, s, x, a, b, e, q, rfl, rfl, hf⟩ := hR
      simp only [go_sem, Nat.reduceAdd, Nat.reduceEqDiff, Nat.reduceLeDiff, true_and, h0, h1, s0, s1, ls_geta, ls_geta0, ls_seta, ls_seta0, bs_size, Option.map_some, Option.map_none, ls_len, aExtract]
      refine hK8 _ _ ?_; try clear hK8 K8
      conv => enter [5]; simp only [setL_cons, setL_nil, List.set_cons_zero, List.set_cons_succ]
      exact AW.ret ⟨.inr rfl, _, ret_ct (v := .agg [i64 k, str s, i64 x, i64 a, i64 b]) rfl (by simp only [go_sem, ls_geta0, List.append_assoc, List.cons_append, List.nil_append] <;> rfl) rfl, ls σ o (LX S q out), _, rfl, by simp only [ls_len], fun j a h => ls_keep (lx_bel (by first | exact hbo | (rw [ls_len]; exact hbo))) j a h, rfl, ⟨_, _, _, rfl, rfl, hf⟩⟩
    · skip
      have hD : ¬ A.digit c = true := fun hD => by
        have h1 := (digit_run (r := r')).1 hD
        rw [← hr] at h1
        have h := hc23
        simp at h
        omega
      refine AW.skip ?_
      refine hK5 _ _ ?_; try clear hK5 K5
      refine AW.regl false [5] (by rfl) fun K9 hK9 => ?_ -- region 6
      simp only [go_sem, Nat.reduceAdd, Nat.reduceEqDiff, Nat.reduceLeDiff, true_and, h0, h1, s0, s1, ls_geta, ls_geta0, ls_seta, ls_seta0, bs_size, Option.map_some, Option.map_none, ls_len]
      refine hK9 _ _ ?_; try clear hK9 K9
      conv => enter [5]; simp only [setL_cons, setL_nil, List.set_cons_zero, List.set_cons_succ, upd_none, upd_at]
      refine AW.seq_k fun K10 hK10 => ?_
      refine AW.regl false [33, 34, 35] (by rfl) fun K11 hK11 => ?_ -- region 7
      simp only [go_sem, Nat.reduceAdd, Nat.reduceEqDiff, Nat.reduceLeDiff, true_and, h0, h1, s0, s1, ls_geta, ls_geta0, ls_seta, ls_seta0, bs_size, Option.map_some, Option.map_none, ls_len, opndF_global, opnd_g0, List.length_map]
      refine hK11 _ _ ?_; try clear hK11 K11
      conv => enter [5]; simp only [setL_cons, setL_nil, List.set_cons_zero, List.set_cons_succ]
      refine AW.block ?_
      refine AW.loop_wk (α := Nat) (fun j => [(.ref o 0), .any, (.ref σ.length 0), .any, .any, (.ref (σ.length + 1) 0), .any, .any, .any, .any, .any, .any, .any, .any, .any, .any, .any, .any, .any, .any, .any, .any, .any, .any, .any, .any, .any, .any, .any, .any, .any, .any, .any, (.sl 1 (signsB.map str)), (.val (.int .i64 ((signsB.length : Nat) : Int))), (.val (.int .i64 ((j : Nat) : Int))), .any, .any, .any, .any, .any, .any, .any, .any, .any, .any, .any, .any, .any, .any, .any, .any, .any]) (fun j => ls σ o (LX S p out) ++ [.cells [.val (.int .i64 0), .val (.string ⟨#[]⟩), .val (.int .i64 0), .val (.int .i64 0), .val (.int .i64 0)], .cells [.val (.int .i64 ((place S p).1)), .val (.int .i64 ((place S p).2))]]) (fun j => 16 - j) (fun j => j ≤ 16 ∧ ∀ e ∈ signsC.take j, e.isPrefixOf (S.drop p) = false) 0 ?_ ?_
      · exact ⟨⟨Nat.zero_le _, fun e he => by cases he⟩, by simp [Wk], rfl⟩
      · rintro j ⟨hj, hno⟩
        refine AW.regl false [36] (by rfl) fun K12 hK12 => ?_ -- region 8
        simp only [go_sem, Nat.reduceAdd, Nat.reduceEqDiff, Nat.reduceLeDiff, true_and, h0, h1, s0, s1, ls_geta, ls_geta0, ls_seta, ls_seta0, bs_size, Option.map_some, Option.map_none, ls_len]
        refine hK12 _ _ ?_; try clear hK12 K12
        conv => enter [5]; simp only [setL_cons, setL_nil, List.set_cons_zero, List.set_cons_succ]
        refine AW.seq_k fun K13 hK13 => ?_
        refine AW.cond rfl (fun hc36 => ?_) (fun hc36 => ?_)
        · skip
          have hj1 : j < signsC.length := by have h := hc36; simp at h; rw [signsB_len] at h; show j < 16; omega
          obtain ⟨sg, hsg⟩ : ∃ z, signsC[j]? = some z := ⟨_, List.getElem?_eq_getElem hj1⟩
          have hx := signsB_at hsg
          have hsm := sign_pos sg (List.mem_of_getElem? hsg)
          refine AW.skip ?_
          refine hK13 _ _ ?_; try clear hK13 K13
          refine AW.seq_k fun K14 hK14 => ?_
          refine AW.block ?_
          refine AW.regl false [7] (by rfl) fun K15 hK15 => ?_ -- region 9
          simp only [go_sem, Nat.reduceAdd, Nat.reduceEqDiff, Nat.reduceLeDiff, true_and, h0, h1, s0, s1, ls_geta, ls_geta0, ls_seta, ls_seta0, bs_size, Option.map_some, Option.map_none, ls_len, at_sl hx]
          refine hK15 _ _ ?_; try clear hK15 K15
          conv => enter [5]; simp only [setL_cons, setL_nil, List.set_cons_zero, List.set_cons_succ]
          refine AW.regl false [44] (by rfl) fun K16 hK16 => ?_ -- region 10
          simp only [go_sem, Nat.reduceAdd, Nat.reduceEqDiff, Nat.reduceLeDiff, true_and, h0, h1, s0, s1, ls_geta, ls_geta0, ls_seta, ls_seta0, bs_size, Option.map_some, Option.map_none, ls_len, bs_list]
          refine sC.of en19 ((pre_calls _ _).on _).here (by rfl) ?_
          simp only [go_sem, Nat.reduceAdd, Nat.reduceEqDiff, Nat.reduceLeDiff, true_and, h0, h1, s0, s1, ls_geta, ls_geta0, ls_seta, ls_seta0, bs_size, Option.map_some, Option.map_none, ls_len, bs_list]
          refine hK16 _ _ ?_; try clear hK16 K16
          conv => enter [5]; simp only [setL_cons, setL_nil, List.set_cons_zero, List.set_cons_succ]
          refine AW.cond rfl (fun hc44 => ?_) (fun hc44 => ?_)
          · skip
            have hpf : sg.isPrefixOf (S.drop p) = true := hc44
            have hsl : p + sg.length ≤ S.length := by
              have := List.IsPrefix.length_le (List.isPrefixOf_iff_prefix.1 hpf)
              rw [List.length_drop] at this
              omega
            refine AW.regch mixed [ls σ o (LX S p out) ++ [.cells [.val (.int .i64 0), .val (.string ⟨#[]⟩), .val (.int .i64 0), .val (.int .i64 0), .val (.int .i64 0)], .cells [.val (.int .i64 ((place S p).1)), .val (.int .i64 ((place S p).2))]], ls σ o (LX S (p + sg.length) out) ++ [.cells [i64 0, str ⟨#[]⟩, i64 0, i64 0, i64 0], .cells [i64 (place S p).1, i64 (place S p).2]], ls σ o (LX S (p + sg.length) out) ++ [.cells [i64 4, str (bs ((S.drop p).take sg.length)), i64 0, i64 (place S p).1, i64 (place S p).2], .cells [i64 (place S p).1, i64 (place S p).2]]] [(0, 0, true), (0, 0, true), (0, 0, true), (0, 0, false), (0, 1, true), (1, 1, true), (0, 0, false), (2, 2, true)] [3] (by kernel_rfl) (by rfl) (by kernel_rfl) (by rfl) fun K17 hK17 => ?_ -- region 11
            simp only [go_sem, Nat.reduceAdd, Nat.reduceEqDiff, Nat.reduceLeDiff, true_and, h0, h1, s0, s1, ls_geta, ls_geta0, ls_seta, ls_seta0, bs_size, Option.map_some, Option.map_none, ls_len, List.append_assoc, List.cons_append, List.nil_append]
            refine xC.of en18 (take_at ho hS hbo p sg.length hsl _) (by rfl) ?_
            simp only [go_sem, Nat.reduceAdd, Nat.reduceEqDiff, Nat.reduceLeDiff, true_and, h0, h1, s0, s1, ls_geta, ls_geta0, ls_seta, ls_seta0, bs_size, Option.map_some, Option.map_none, ls_len, List.append_assoc, List.cons_append, List.nil_append]
            refine xE.of (by first | rfl | (simp; done) | (simp; repeat' constructor)) ?_
            simp only [go_sem, Nat.reduceAdd, Nat.reduceEqDiff, Nat.reduceLeDiff, true_and, h0, h1, s0, s1, ls_geta, ls_geta0, ls_seta, ls_seta0, bs_size, Option.map_some, Option.map_none, ls_len, List.append_assoc, List.cons_append, List.nil_append]
            refine hK17 _ ?_; try clear hK17 K17
            conv => enter [5]; simp only [setL_cons, setL_nil, List.set_cons_zero, List.set_cons_succ]
            show AW _ _ _ _ _ (ls σ o (LX S (p + sg.length) out) ++ [.cells [i64 4, str (bs ((S.drop p).take sg.length)), i64 0, i64 (place S p).1, i64 (place S p).2], .cells [i64 (place S p).1, i64 (place S p).2]]) _
            exact AW.ret ⟨.inr rfl, _, ret_ct (v := tokA S 4 p sg.length 0) rfl (by simp only [go_sem, ls_geta0, List.append_assoc, List.cons_append, List.nil_append] <;> rfl) rfl, ls σ o (LX S (p + sg.length) out), _, rfl, by simp only [ls_len], fun j a h => ls_keep (lx_bel (by first | exact hbo | (rw [ls_len]; exact hbo))) j a h, rfl, ⟨_, _, _, rfl, rfl, next_sign hr hL hD hsg hno hpf⟩⟩
          · skip
            have hpf : sg.isPrefixOf (S.drop p) = false := hc44
            refine AW.skip ?_
            refine hK14 _ _ ?_; try clear hK14 K14
            refine AW.lastl false [35] (by rfl) fun K hK => ?_ -- region 12
            simp only [go_sem, Nat.reduceAdd, Nat.reduceEqDiff, Nat.reduceLeDiff, true_and, h0, h1, s0, s1, ls_geta, ls_geta0, ls_seta, ls_seta0, bs_size, Option.map_some, Option.map_none, ls_len]
            refine hK _ _ fun env' hw => ?_
            simp only [setL_cons, setL_nil, List.set_cons_zero, List.set_cons_succ] at hw
            refine ⟨j + 1, by have : signsC.length = 16 := rfl; omega, ⟨by have : signsC.length = 16 := rfl; omega, fun e he => ?_⟩, ?_, rfl⟩
            · rw [List.take_add_one, hsg, List.mem_append] at he
              rcases he with he | he
              · exact hno e he
              · simp at he
                rw [he]
                exact hpf
            · refine hw.trans ?_
              simp [Wk, wrapN (show -1000000000 ≤ ((j : Nat) : Int) + 1 by omega) (by omega)]
        · skip
          have hall : ∀ e ∈ signsC, e.isPrefixOf (S.drop p) = false := by
            have h := hc36
            simp at h
            rw [signsB_len] at h
            rw [List.take_of_length_le (show signsC.length ≤ j by show 16 ≤ j; omega)] at hno
            exact hno
          refine AW.exit ?_
          refine hK10 _ _ ?_; try clear hK10 K10
          refine AW.regl false [3] (by rfl) fun K18 hK18 => ?_ -- region 13
          simp only [go_sem, Nat.reduceAdd, Nat.reduceEqDiff, Nat.reduceLeDiff, true_and, h0, h1, s0, s1, ls_geta, ls_geta0, ls_seta, ls_seta0, bs_size, Option.map_some, Option.map_none, ls_len]
          refine hK18 _ _ ?_; try clear hK18 K18
          conv => enter [5]; simp only [setL_cons, setL_nil, List.set_cons_zero, List.set_cons_succ]
          exact AW.ret ⟨.inr rfl, _, ret_ct (v := tok0) rfl (by simp only [go_sem, ls_geta0, List.append_assoc, List.cons_append, List.nil_append] <;> rfl) rfl, ls σ o (LX S p out), _, rfl, by simp only [ls_len], fun j a h => ls_keep (lx_bel (by first | exact hbo | (rw [ls_len]; exact hbo))) j a h, rfl, ⟨_, _, _, rfl, rfl, next_none hr hL hD hall⟩⟩
end Lx
end Go.Proofs.Tryd
/-! Lexing: what the walk through the lexer's loop needs. -/
namespace Go.Proofs.Tryd
set_option linter.unusedSimpArgs false
set_option linter.unusedVariables false
open Go Go.Proofs.Ev
namespace Lx
variable {Γ : List (Nat × List AV)} {w : AV} {mx : Int} {te : TypeId}
def tokT (S : List UInt8) (k : Tk) : AV := tokA S k.kind k.at_ k.n k.v
/-- What the program says of a text. -/
def lexV (S : List UInt8) : AV := .tup [rowAV 5 true ((lexM S).1.map (tokT S)), (if (lexM S).2.2 = 0 then .agg [i64 0, i64 0] else .agg [i64 (place S (lexM S).2.1).1, i64 (place S (lexM S).2.1).2]), i64 (lexM S).2.2]
theorem ls_mid (σ : Sto) (a : AO) (c : List AV) (l : Sto) : ls (σ ++ a :: .cells [] :: l) (σ.length + 1) c = σ ++ a :: .cells c :: l := by
  rw [ls, app_set]
  rfl
theorem between_in {σ : Sto} {a : AO} {l : Sto} {S : List UInt8} (hS : S.length ≤ 20000) {out : AV} (hbo : out.bel (σ.length + 2 + 1) = true) (hl : 1 ≤ l.length) (p : Nat) (hp : p ≤ S.length) : ACalls prog (GL w mx te) 9 [.ref (σ.length + 1) 0] (σ ++ a :: .cells (LX S p out) :: l) (fun v σ' => σ' = σ ++ a :: .cells (LX S (p + sk (S.drop p)) out) :: l ∧ v = .val (.bool (!gapO (S.drop (p + sk (S.drop p)))))) := by
  have := between_calls (w := w) (mx := mx) (te := te) (σ := σ ++ a :: .cells [] :: l) (o := σ.length + 1) (by simp) hS (out := out) (bel_up' hbo (by simp; omega)) p hp
  rwa [ls_mid, ls_mid] at this
theorem next_in (hΓ : A.Words (GL w mx te)) {σ : Sto} {a : AO} {l : Sto} {S : List UInt8} (hS : S.length ≤ 20000) {out : AV} (hbo : out.bel (σ.length + 2 + 1) = true) (hl : 1 ≤ l.length) (p : Nat) (hp : p < S.length) : ACalls prog (GL w mx te) 10 [.ref (σ.length + 1) 0] (σ ++ a :: .cells (LX S p out) :: l) (fun v σ' => ∃ k s x y z e q, σ' = σ ++ a :: .cells (LX S q out) :: l ∧ v = .tup [.agg [i64 k, str s, i64 x, i64 y, i64 z], i64 e] ∧ NextF S p (.agg [i64 k, str s, i64 x, i64 y, i64 z]) e q) := by
  have := next_calls (w := w) (mx := mx) (te := te) hΓ (σ := σ ++ a :: .cells [] :: l) (o := σ.length + 1) (by simp) hS (out := out) (bel_up' hbo (by simp; omega)) p hp
  simp only [ls_mid] at this
  refine this.mono ?_
  rintro v σ' ⟨u, e, q, rfl, rfl, h⟩
  rcases h with ⟨h1, h2, h3, rfl⟩ | ⟨h1, h2, h3, k, s, x, y, z, rfl⟩
  · exact ⟨_, _, _, _, _, _, _, rfl, rfl, .inl ⟨h1, h2, h3, rfl⟩⟩
  · exact ⟨_, _, _, _, _, _, _, rfl, rfl, .inr ⟨h1, h2, h3, _, _, _, _, _, rfl⟩⟩
theorem ret_tct {fn : Func} {t0 t u : Tmp} {T : TypeId} {σ : Sto} {env : Env} {v0 v v2 : AV} (h : fn.results.toList = [.tmp t0, .cell t T, .tmp u]) (h0 : env[t0]? = some v0) (hl : aLoad prog σ T (env.getD t .any) = some v) (hu : env[u]? = some v2) : aReturn prog fn σ env = some (.tup [v0, v, v2]) := by
  simp only [aReturn, h, aResults, aResult, h0, hl, hu]
theorem ap_tok {S : List UInt8} {T : List Tk} (hT : T.length ≤ 30000) (k : Tk) (σ : Sto) (o : Nat) {a : AV} (ha : tokT S k = a) : appAt σ true 5 48 (T.map (tokT S)) o [a] (some (.cap T.length 5)) = some (.slo true 5 ((T ++ [k]).map (tokT S)) o, σ.set o (.cap (T.length + 1) 5)) := by
  subst ha
  rw [appAt_one σ true 5 48 _ o T.length (tokT S k) (by simp) (fits_of (by rw [List.length_map]; omega) (by decide))]
  simp
/-! The model's steps. -/
theorem lex_gap {S : List UInt8} {T : List Tk} {f p : Nat} (h : gapO (S.drop (p + sk (S.drop p))) = true) : fin T (lexF (f + 1) S p) = ([], p + sk (S.drop p), 2) := by
  unfold lexF
  rw [if_pos h]
  rfl
theorem lex_end {S : List UInt8} {T : List Tk} {f p : Nat} (h : ¬ gapO (S.drop (p + sk (S.drop p))) = true) (h2 : S.length ≤ p + sk (S.drop p)) : fin T (lexF (f + 1) S p) = (T ++ [⟨0, p + sk (S.drop p), 0, 0⟩], 0, 0) := by
  unfold lexF
  rw [if_neg h, if_pos h2]
  rfl
theorem lex_err {S : List UInt8} {T : List Tk} {f p : Nat} (h : ¬ gapO (S.drop (p + sk (S.drop p))) = true) (h2 : ¬ S.length ≤ p + sk (S.drop p)) (h3 : ¬ (tk (S.drop (p + sk (S.drop p)))).2.2.2 = 0) : fin T (lexF (f + 1) S p) = ([], p + sk (S.drop p), (tk (S.drop (p + sk (S.drop p)))).2.2.2) := by
  unfold lexF
  rw [if_neg h, if_neg h2, if_neg h3]
  unfold fin
  rw [if_neg h3]
theorem lex_tok {S : List UInt8} {T : List Tk} {f p : Nat} (h : ¬ gapO (S.drop (p + sk (S.drop p))) = true) (h2 : ¬ S.length ≤ p + sk (S.drop p)) (h3 : (tk (S.drop (p + sk (S.drop p)))).2.2.2 = 0) :
    fin T (lexF (f + 1) S p) = fin (T ++ [⟨(tk (S.drop (p + sk (S.drop p)))).1, p + sk (S.drop p), (tk (S.drop (p + sk (S.drop p)))).2.1, (tk (S.drop (p + sk (S.drop p)))).2.2.1⟩]) (lexF f S (p + sk (S.drop p) + (tk (S.drop (p + sk (S.drop p)))).2.1)) := by
  conv => lhs; unfold lexF
  rw [if_neg h, if_neg h2, if_pos h3]
  unfold fin
  by_cases h4 : (lexF f S (p + sk (S.drop p) + (tk (S.drop (p + sk (S.drop p)))).2.1)).2.2 = 0
  · rw [if_pos h4, if_pos h4, if_pos rfl]
    simp
  · rw [if_neg h4, if_neg h4]
    rw [if_neg h4]
theorem sk_drop {S : List UInt8} {p : Nat} (hp : p ≤ S.length) : p + sk (S.drop p) ≤ S.length := by
  have := sk_le (S.drop p)
  rw [List.length_drop] at this
  omega
theorem lexV_err {S : List UInt8} {q : Nat} {e : Int} (h : lexM S = ([], q, e)) (he : ¬ e = 0) : lexV S = .tup [.nilsl, .agg [i64 (place S q).1, i64 (place S q).2], i64 e] := by
  unfold lexV
  rw [h]
  simp only [List.map_nil]
  rw [if_neg he]
  rfl
theorem lexV_ok {S : List UInt8} {T : List Tk} (h : lexM S = (T, 0, 0)) : lexV S = .tup [rowAV 5 true (T.map (tokT S)), .agg [i64 0, i64 0], i64 0] := by
  unfold lexV
  rw [h]
  rfl
theorem tok_inj {k k' : Int} {s s' : ByteArray} {x x' y y' z z' : Int} (h : AV.agg [i64 k, str s, i64 x, i64 y, i64 z] = AV.agg [i64 k', str s', i64 x', i64 y', i64 z']) : k = k' ∧ s = s' ∧ x = x' ∧ y = y' ∧ z = z' := by
  simpa using h
theorem dropn {S : List UInt8} {p : Nat} : decide (S.drop p = []) = decide (S.length ≤ p) := decide_eq_decide.2 List.drop_eq_nil_iff
theorem slo_bel (S : List UInt8) (T : List Tk) (σ : Sto) : AV.bel (σ.length + 2 + 1) (.slo true 5 (T.map (tokT S)) (σ.length + 2)) = true := by
  simp only [AV.bel, Bool.and_eq_true, decide_eq_true_eq]
  exact ⟨by omega, belL_map _ _ fun _ _ => rfl⟩
end Lx
end Go.Proofs.Tryd
/-! Lexing: function 5. -/
namespace Go.Proofs.Tryd
set_option linter.unusedSimpArgs false
set_option linter.unusedVariables false
open Go Go.Proofs.Ev
namespace Lx
variable {Γ : List (Nat × List AV)} {w : AV} {mx : Int} {te : TypeId}
set_option maxRecDepth 100000 in
set_option maxHeartbeats 1000000 in
theorem lex_calls (hΓ : A.Words (GL w mx te)) (S : List UInt8) (hS : S.length ≤ 20000) : APure prog (GL w mx te) 5 [str (bs S)] (lexV S) := by
  refine APure.of func5 rfl fun σ => ?_
  simp only [ntmps5, List.length_cons, List.length_nil, Nat.reduceAdd, Nat.reduceSub, List.replicate_succ, List.replicate_zero, List.cons_append, List.nil_append]
  have hpl := place_le hS
  refine AW.regl false [2, 3, 4] (by rfl) fun K1 hK1 => ?_ -- region 0
  simp only [go_sem, Nat.reduceAdd, Nat.reduceEqDiff, Nat.reduceLeDiff, true_and, app_get, app_get0, app_set, app_set0, Option.map_some, Option.map_none]
  refine hK1 _ _ ?_; try clear hK1 K1
  conv => enter [5]; simp only [setL_cons, setL_nil, List.set_cons_zero, List.set_cons_succ]
  refine AW.regl false [5] (by rfl) fun K2 hK2 => ?_ -- region 1
  simp only [go_sem, Nat.reduceAdd, Nat.reduceEqDiff, Nat.reduceLeDiff, true_and, app_get, app_get0, app_set, app_set0, Option.map_some, Option.map_none]
  refine hK2 _ _ ?_; try clear hK2 K2
  conv => enter [5]; simp only [setL_cons, setL_nil, List.set_cons_zero, List.set_cons_succ]
  refine AW.cap 5 ?_
  simp only [List.append_assoc, List.cons_append, List.nil_append]
  refine AW.own (σ.length + 1) 3 (σ.length + 2) ((app_get σ _ 1).trans rfl) rfl ((app_get σ _ 2).trans rfl) (by decide) ?_
  simp only [app_set, List.set_cons_zero, List.set_cons_succ]
  refine AW.block ?_
  refine AW.loop_dr (α := Nat × List Tk) (fun z => [.any, .any, .any, (.ref σ.length 0), .any, (.ref (σ.length + 1) 0), .any, .any, .any, .any, .any, .any, .any, .any, .any, .any, .any, .any, .any, .any, .any, .any, .any, .any, .any, .any, .any, .any, .any, .any, .any, .any, .any, .any, .any, .any, .any, .any, .any, .any, .any, .any, .any, .any, .any, .any, .any, .any, .any, .any, .any, .any, .any, .any, .any, .any, .any, .any]) (fun z => σ ++ [.cells [i64 0, i64 0], .cells (LX S z.1 (.slo true 5 ((z.2).map (tokT S)) (σ.length + 2))), .cap z.2.length 5]) (fun z => S.length - z.1) (fun z => z.1 ≤ S.length ∧ z.2.length ≤ z.1 ∧ ∃ f, S.length - z.1 < f ∧ fin z.2 (lexF f S z.1) = lexM S) (0, []) ?_ ?_ ?_
  · exact ⟨⟨Nat.zero_le _, Nat.le_refl _, S.length + 1, by simp, rfl⟩, by simp [Wk], rfl⟩
  · refine fun y _ => ⟨?_, bel_app σ fun a ha => ?_⟩
    · simp only [belL, AV.bel, Bool.and_true, Bool.true_and, Bool.and_eq_true, decide_eq_true_eq, List.length_append, List.length_cons, List.length_nil]
      omega
    · simp only [List.mem_cons, List.not_mem_nil, or_false] at ha
      rcases ha with rfl | rfl | rfl
      · rfl
      · exact lx_bel (bel_up' (slo_bel S y.2 σ) (by simp))
      · rfl
  · rintro ⟨p, T⟩ ⟨hpS, hTl, f, hf, hfin⟩
    simp only at hpS hTl hf hfin
    refine AW.block ?_
    refine AW.seq_k fun K3 hK3 => ?_
    obtain ⟨p1, hp1⟩ : ∃ z, z = p + sk (S.drop p) := ⟨_, rfl⟩
    have hp1l : p1 ≤ S.length := by rw [hp1]; exact sk_drop hpS
    have hbo := slo_bel S T σ
    obtain ⟨f, rfl⟩ : ∃ g, f = g + 1 := ⟨f - 1, by omega⟩
    have hbt := between_in (w := w) (mx := mx) (te := te) (σ := σ) (a := .cells [i64 0, i64 0]) (l := [.cap T.length 5]) hS hbo (by simp) p hpS
    have hnx := fun h => next_in (w := w) (mx := mx) (te := te) hΓ (σ := σ) (a := .cells [i64 0, i64 0]) (l := [.cap T.length 5]) hS hbo (by simp) p1 h
    rw [← hp1] at hbt
    refine AW.regl false [14] (by rfl) fun K4 hK4 => ?_ -- region 2
    simp only [go_sem, Nat.reduceAdd, Nat.reduceEqDiff, Nat.reduceLeDiff, true_and, app_get, app_get0, app_set, app_set0, Option.map_some, Option.map_none]
    refine sC.ofR en9 (hbt) (fun v' σ' hR => ?_)
    obtain ⟨rfl, rfl⟩ := hR
    simp only [go_sem, Nat.reduceAdd, Nat.reduceEqDiff, Nat.reduceLeDiff, true_and, app_get, app_get0, app_set, app_set0, Option.map_some, Option.map_none]
    refine hK4 _ _ ?_; try clear hK4 K4
    conv => enter [5]; simp only [setL_cons, setL_nil, List.set_cons_zero, List.set_cons_succ]
    refine AW.cond rfl (fun hc14 => ?_) (fun hc14 => ?_)
    · skip
      have hgo : gapO (S.drop p1) = true := by simpa using hc14
      have hM : lexM S = ([], p1, 2) := by rw [← hfin, hp1]; exact lex_gap (hp1 ▸ hgo)
      refine AW.regch mixed [σ ++ [.cells [i64 0, i64 0], .cells (LX S p1 (.slo true 5 ((T).map (tokT S)) (σ.length + 2))), .cap T.length 5], σ ++ [.cells [i64 (place S p1).1, i64 (place S p1).2], .cells (LX S p1 (.slo true 5 ((T).map (tokT S)) (σ.length + 2))), .cap T.length 5]] [(0, 0, true), (0, 0, true), (0, 0, true), (0, 0, true), (0, 0, true), (0, 0, false), (1, 1, true)] [2, 4] (by kernel_rfl) (by rfl) (by kernel_rfl) (by rfl) fun K5 hK5 => ?_ -- region 3
      simp only [go_sem, Nat.reduceAdd, Nat.reduceEqDiff, Nat.reduceLeDiff, true_and, app_get, app_get0, app_set, app_set0, Option.map_some, Option.map_none, List.append_assoc, List.cons_append, List.nil_append]
      refine xE.of (by first | rfl | (simp; done) | (simp; repeat' constructor)) ?_
      simp only [go_sem, Nat.reduceAdd, Nat.reduceEqDiff, Nat.reduceLeDiff, true_and, app_get, app_get0, app_set, app_set0, Option.map_some, Option.map_none, List.append_assoc, List.cons_append, List.nil_append]
      refine hK5 _ ?_; try clear hK5 K5
      conv => enter [5]; simp only [setL_cons, setL_nil, List.set_cons_zero, List.set_cons_succ]
      show AW _ _ _ _ _ (σ ++ [.cells [i64 (place S p1).1, i64 (place S p1).2], .cells (LX S p1 (.slo true 5 ((T).map (tokT S)) (σ.length + 2))), .cap T.length 5]) _
      exact AW.ret ⟨.inr rfl, _, ret_tct (v0 := .nilsl) (v := .agg [i64 (place S p1).1, i64 (place S p1).2]) (v2 := i64 2) rfl rfl (by simp only [go_sem, app_get, app_get0, List.append_assoc, List.cons_append, List.nil_append] <;> rfl) rfl, by simp, by rw [lexV_err hM (by decide)]; exact .keep rfl⟩
    · skip
      have hgo : ¬ gapO (S.drop p1) = true := by simpa using hc14
      refine AW.skip ?_
      refine hK3 _ _ ?_; try clear hK3 K3
      refine AW.seq_k fun K6 hK6 => ?_
      refine AW.regl false [23] (by rfl) fun K7 hK7 => ?_ -- region 4
      simp only [go_sem, Nat.reduceAdd, Nat.reduceEqDiff, Nat.reduceLeDiff, true_and, app_get, app_get0, app_set, app_set0, Option.map_some, Option.map_none, eqS0, dropn]
      refine hK7 _ _ ?_; try clear hK7 K7
      conv => enter [5]; simp only [setL_cons, setL_nil, List.set_cons_zero, List.set_cons_succ]
      refine AW.cond rfl (fun hc23 => ?_) (fun hc23 => ?_)
      · skip
        have hnl : S.length ≤ p1 := by simpa using hc23
        have hM : lexM S = ((T ++ [Tk.mk 0 p1 0 0]), 0, 0) := by rw [← hfin, hp1]; exact lex_end (hp1 ▸ hgo) (hp1 ▸ hnl)
        have hap0 := fun σ o => ap_tok (S := S) (T := T) (by omega) ⟨0, p1, 0, 0⟩ σ o (a := .agg [i64 0, str ⟨#[]⟩, i64 0, i64 (place S p1).1, i64 (place S p1).2]) rfl
        refine AW.regch mixed [σ ++ [.cells [i64 0, i64 0], .cells (LX S p1 (.slo true 5 ((T).map (tokT S)) (σ.length + 2))), .cap T.length 5], σ ++ [.cells [i64 0, i64 0], .cells (LX S p1 (.slo true 5 ((T).map (tokT S)) (σ.length + 2))), .cap (T.length + 1) 5], σ ++ [.cells [i64 0, i64 0], .cells (LX S p1 (.slo true 5 ((T).map (tokT S)) (σ.length + 2))), .cap (T.length + 1) 5]] [(0, 0, true), (0, 0, true), (0, 0, true), (0, 0, true), (0, 0, true), (0, 0, true), (0, 0, true), (0, 0, true), (0, 0, true), (0, 0, true), (0, 0, false), (0, 1, true), (1, 1, true), (0, 0, false), (2, 2, true)] [2, 4] (by kernel_rfl) (by rfl) (by kernel_rfl) (by rfl) fun K8 hK8 => ?_ -- region 5
        simp only [go_sem, Nat.reduceAdd, Nat.reduceEqDiff, Nat.reduceLeDiff, true_and, app_get, app_get0, app_set, app_set0, Option.map_some, Option.map_none, row1_22, hap0, List.append_assoc, List.cons_append, List.nil_append]
        refine xE.of (by first | rfl | (simp; done) | (simp; repeat' constructor)) ?_
        simp only [go_sem, Nat.reduceAdd, Nat.reduceEqDiff, Nat.reduceLeDiff, true_and, app_get, app_get0, app_set, app_set0, Option.map_some, Option.map_none, row1_22, hap0, List.append_assoc, List.cons_append, List.nil_append]
        refine xE.of (by first | rfl | (simp; done) | (simp; repeat' constructor)) ?_
        simp only [go_sem, Nat.reduceAdd, Nat.reduceEqDiff, Nat.reduceLeDiff, true_and, app_get, app_get0, app_set, app_set0, Option.map_some, Option.map_none, row1_22, hap0, List.append_assoc, List.cons_append, List.nil_append]
        refine hK8 _ ?_; try clear hK8 K8
        conv => enter [5]; simp only [setL_cons, setL_nil, List.set_cons_zero, List.set_cons_succ]
        show AW _ _ _ _ _ (σ ++ [.cells [i64 0, i64 0], .cells (LX S p1 (.slo true 5 ((T).map (tokT S)) (σ.length + 2))), .cap (T.length + 1) 5]) _
        exact AW.ret ⟨.inr rfl, _, ret_tct (v0 := .slo true 5 (((T ++ [Tk.mk 0 p1 0 0])).map (tokT S)) (σ.length + 2)) (v := .agg [i64 0, i64 0]) (v2 := i64 0) rfl rfl (by simp only [go_sem, app_get, app_get0, List.append_assoc, List.cons_append, List.nil_append] <;> rfl) rfl, by simp, by rw [lexV_ok hM]; exact .tup (.cons (frz_row (fun _ _ => rfl) (by omega) _) (.cons (.keep rfl) (.cons (.keep rfl) .nil)))⟩
      · skip
        have hnl : ¬ S.length ≤ p1 := by simpa using hc23
        have hpl1 : p1 < S.length := by omega
        refine AW.skip ?_
        refine hK6 _ _ ?_; try clear hK6 K6
        refine AW.regl false [6, 7] (by rfl) fun K9 hK9 => ?_ -- region 6
        simp only [go_sem, Nat.reduceAdd, Nat.reduceEqDiff, Nat.reduceLeDiff, true_and, app_get, app_get0, app_set, app_set0, Option.map_some, Option.map_none, aExtract]
        refine sC.ofR en10 (hnx hpl1) (fun v' σ' hR => ?_)
        obtain ⟨k, s, x, y, z, e, q, rfl, rfl, hf2⟩ := hR
        simp only [go_sem, Nat.reduceAdd, Nat.reduceEqDiff, Nat.reduceLeDiff, true_and, app_get, app_get0, app_set, app_set0, Option.map_some, Option.map_none, aExtract]
        refine hK9 _ _ ?_; try clear hK9 K9
        conv => enter [5]; simp only [setL_cons, setL_nil, List.set_cons_zero, List.set_cons_succ]
        refine AW.seq_k fun K10 hK10 => ?_
        refine AW.regl false [42] (by rfl) fun K11 hK11 => ?_ -- region 7
        simp only [go_sem, Nat.reduceAdd, Nat.reduceEqDiff, Nat.reduceLeDiff, true_and, app_get, app_get0, app_set, app_set0, Option.map_some, Option.map_none]
        refine hK11 _ _ ?_; try clear hK11 K11
        conv => enter [5]; simp only [setL_cons, setL_nil, List.set_cons_zero, List.set_cons_succ]
        refine AW.cond rfl (fun hc42 => ?_) (fun hc42 => ?_)
        · skip
          have he : ¬ e = 0 := by simpa using hc42
          obtain ⟨h0e, rfl, rfl⟩ : ¬ (tk (S.drop p1)).2.2.2 = 0 ∧ (tk (S.drop p1)).2.2.2 = e ∧ p1 = q := by
            rcases hf2 with ⟨_, h, _⟩ | ⟨h1, h2, h3, _⟩
            · exact absurd h he
            · exact ⟨h1, h2.symm, h3.symm⟩
          have hM : lexM S = ([], p1, (tk (S.drop p1)).2.2.2) := by rw [← hfin, hp1]; exact lex_err (hp1 ▸ hgo) (hp1 ▸ hnl) (hp1 ▸ h0e)
          refine AW.regch mixed [σ ++ [.cells [i64 0, i64 0], .cells (LX S p1 (.slo true 5 ((T).map (tokT S)) (σ.length + 2))), .cap T.length 5, .cells [i64 k, str s, i64 x, i64 y, i64 z]], σ ++ [.cells [i64 (place S p1).1, i64 (place S p1).2], .cells (LX S p1 (.slo true 5 ((T).map (tokT S)) (σ.length + 2))), .cap T.length 5, .cells [i64 k, str s, i64 x, i64 y, i64 z]]] [(0, 0, true), (0, 0, true), (0, 0, true), (0, 0, true), (0, 1, true), (0, 0, true), (0, 0, false), (1, 1, true)] [2, 4] (by kernel_rfl) (by rfl) (by kernel_rfl) (by rfl) fun K12 hK12 => ?_ -- region 8
          simp only [go_sem, Nat.reduceAdd, Nat.reduceEqDiff, Nat.reduceLeDiff, true_and, app_get, app_get0, app_set, app_set0, Option.map_some, Option.map_none, List.append_assoc, List.cons_append, List.nil_append]
          refine xE.of (by first | rfl | (simp; done) | (simp; repeat' constructor)) ?_
          simp only [go_sem, Nat.reduceAdd, Nat.reduceEqDiff, Nat.reduceLeDiff, true_and, app_get, app_get0, app_set, app_set0, Option.map_some, Option.map_none, List.append_assoc, List.cons_append, List.nil_append]
          refine hK12 _ ?_; try clear hK12 K12
          conv => enter [5]; simp only [setL_cons, setL_nil, List.set_cons_zero, List.set_cons_succ]
          show AW _ _ _ _ _ (σ ++ [.cells [i64 (place S p1).1, i64 (place S p1).2], .cells (LX S p1 (.slo true 5 ((T).map (tokT S)) (σ.length + 2))), .cap T.length 5, .cells [i64 k, str s, i64 x, i64 y, i64 z]]) _
          exact AW.ret ⟨.inr rfl, _, ret_tct (v0 := .nilsl) (v := .agg [i64 (place S p1).1, i64 (place S p1).2]) (v2 := i64 (tk (S.drop p1)).2.2.2) rfl rfl (by simp only [go_sem, app_get, app_get0, List.append_assoc, List.cons_append, List.nil_append] <;> rfl) rfl, by simp, by rw [lexV_err hM h0e]; exact .keep rfl⟩
        · skip
          have he : e = 0 := by simpa using hc42
          obtain ⟨h0e, hq, hu⟩ : (tk (S.drop p1)).2.2.2 = 0 ∧ q = p1 + (tk (S.drop p1)).2.1 ∧ AV.agg [i64 k, str s, i64 x, i64 y, i64 z] = tokA S (tk (S.drop p1)).1 p1 (tk (S.drop p1)).2.1 (tk (S.drop p1)).2.2.1 := by
            rcases hf2 with ⟨h1, _, h3, h4⟩ | ⟨h1, h2, _⟩
            · exact ⟨h1, h3, h4⟩
            · exact absurd (h2 ▸ he) h1
          obtain ⟨rfl, rfl, rfl, rfl, rfl⟩ := tok_inj hu
          subst hq he
          have htn := tk_le (S.drop p1)
          have htp := tk_pos h0e
          rw [List.length_drop] at htn
          have hap := fun σ o => ap_tok (S := S) (T := T) (by omega) ⟨(tk (S.drop p1)).1, p1, (tk (S.drop p1)).2.1, (tk (S.drop p1)).2.2.1⟩ σ o (a := .agg [i64 (tk (S.drop p1)).1, str (bs ((S.drop p1).take (tk (S.drop p1)).2.1)), i64 (tk (S.drop p1)).2.2.1, i64 (place S p1).1, i64 (place S p1).2]) rfl
          refine AW.skip ?_
          refine hK10 _ _ ?_; try clear hK10 K10
          refine AW.lastch mixed [σ ++ [.cells [i64 0, i64 0], .cells (LX S (p1 + (tk (S.drop p1)).2.1) (.slo true 5 ((T).map (tokT S)) (σ.length + 2))), .cap T.length 5, .cells [i64 (tk (S.drop p1)).1, str (bs ((S.drop p1).take (tk (S.drop p1)).2.1)), i64 (tk (S.drop p1)).2.2.1, i64 (place S p1).1, i64 (place S p1).2]], σ ++ [.cells [i64 0, i64 0], .cells (LX S (p1 + (tk (S.drop p1)).2.1) (.slo true 5 ((T).map (tokT S)) (σ.length + 2))), .cap (T.length + 1) 5, .cells [i64 (tk (S.drop p1)).1, str (bs ((S.drop p1).take (tk (S.drop p1)).2.1)), i64 (tk (S.drop p1)).2.2.1, i64 (place S p1).1, i64 (place S p1).2]], σ ++ [.cells [i64 0, i64 0], .cells (LX S (p1 + (tk (S.drop p1)).2.1) (.slo true 5 (((T ++ [Tk.mk (tk (S.drop p1)).1 p1 (tk (S.drop p1)).2.1 (tk (S.drop p1)).2.2.1])).map (tokT S)) (σ.length + 2))), .cap (T.length + 1) 5, .cells [i64 (tk (S.drop p1)).1, str (bs ((S.drop p1).take (tk (S.drop p1)).2.1)), i64 (tk (S.drop p1)).2.2.1, i64 (place S p1).1, i64 (place S p1).2]]] [(0, 1, true), (0, 0, true), (0, 0, true), (0, 0, true), (0, 0, true), (0, 0, true), (0, 0, true), (0, 0, false), (1, 1, true), (1, 1, true), (0, 0, false)] [] (by kernel_rfl) (by rfl) (by kernel_rfl) (by rfl) fun K hK => ?_ -- region 9
          simp only [go_sem, Nat.reduceAdd, Nat.reduceEqDiff, Nat.reduceLeDiff, true_and, app_get, app_get0, app_set, app_set0, Option.map_some, Option.map_none, row1_22, hap, List.append_assoc, List.cons_append, List.nil_append]
          refine xE.of (by first | rfl | (simp; done) | (simp; repeat' constructor)) ?_
          simp only [go_sem, Nat.reduceAdd, Nat.reduceEqDiff, Nat.reduceLeDiff, true_and, app_get, app_get0, app_set, app_set0, Option.map_some, Option.map_none, row1_22, hap, List.append_assoc, List.cons_append, List.nil_append]
          refine xE.of (by first | rfl | (simp; done) | (simp; repeat' constructor)) ?_
          simp only [go_sem, Nat.reduceAdd, Nat.reduceEqDiff, Nat.reduceLeDiff, true_and, app_get, app_get0, app_set, app_set0, Option.map_some, Option.map_none, row1_22, hap, List.append_assoc, List.cons_append, List.nil_append]
          refine hK _ fun env' hw => ?_
          simp only [setL_cons, setL_nil, List.set_cons_zero, List.set_cons_succ, upd_none, upd_at] at hw
          refine ⟨(p1 + (tk (S.drop p1)).2.1, (T ++ [Tk.mk (tk (S.drop p1)).1 p1 (tk (S.drop p1)).2.1 (tk (S.drop p1)).2.2.1])), ?_, ⟨?_, ?_, f, ?_, ?_⟩, ?_, ?_⟩
          · simp only; omega
          · simp only; omega
          · simp only [List.length_append, List.length_cons, List.length_nil]; omega
          · simp only; omega
          · simp only
            rw [← hfin, hp1]
            exact (lex_tok (hp1 ▸ hgo) (hp1 ▸ hnl) (hp1 ▸ h0e)).symm
          · refine hw.trans ?_
            simp [Wk]
          · simp [List.take_append, List.take_of_length_le]
end Lx
end Go.Proofs.Tryd
/-! Lexing: what the laws need. -/
namespace Go.Proofs.Tryd
set_option linter.unusedSimpArgs false
set_option linter.unusedVariables false
open Go Go.Proofs.Ev
namespace Lx
variable {Γ : List (Nat × List AV)} {w : AV} {mx : Int} {te : TypeId}
theorem bT24 : prog.eqGuardType prog.depth 24 = false := by kernel_rfl
theorem eqD24 (a b c d : Int) : aEqD prog 6 24 (.agg [i64 a, i64 b]) (.agg [i64 c, i64 d]) = some ((a == c) && ((b == d) && true)) := by kernel_rfl
theorem eq24 (a b c d : Int) : aBin prog .eql 24 (.agg [i64 a, i64 b]) (.agg [i64 c, i64 d]) = some (.val (.bool (decide (a = c) && decide (b = d)))) := by
  simp only [aBin, bT24, Bool.false_eq_true, if_false, eqD24, Option.map_some, Bool.and_true]
  congr 3
theorem ne24 (a b c d : Int) : aBin prog .neq 24 (.agg [i64 a, i64 b]) (.agg [i64 c, i64 d]) = some (.val (.bool (!(decide (a = c) && decide (b = d))))) := by
  simp only [aBin, bT24, Bool.false_eq_true, if_false, eqD24, Option.map_some, Bool.and_true]
  congr 3
theorem lexM_e (S : List UInt8) : (lexM S).2.2 = (lexF (S.length + 1) S 0).2.2 := by
  unfold lexM fin
  split
  · rename_i h
    exact h.symm
  · rfl
theorem lexM_T {S : List UInt8} (h : (lexM S).2.2 = 0) : (lexM S).1 = (lexF (S.length + 1) S 0).1 := by
  rw [lexM_e] at h
  unfold lexM fin
  rw [if_pos h]
  rfl
theorem lexM_err {S : List UInt8} (h : ¬ (lexM S).2.2 = 0) : (lexM S).1 = [] := by
  rw [lexM_e] at h
  unfold lexM fin
  rw [if_neg h]
/-- What is told of a text, in three parts. -/
theorem lexV_form (S : List UInt8) : ∃ a b : Int, lexV S = .tup [rowAV 5 true ((lexM S).1.map (tokT S)), .agg [i64 a, i64 b], i64 (lexM S).2.2] ∧ ((lexM S).2.2 = 0 → a = 0 ∧ b = 0) ∧ (¬ (lexM S).2.2 = 0 → a = (place S (lexM S).2.1).1 ∧ b = (place S (lexM S).2.1).2) := by
  unfold lexV
  by_cases h : (lexM S).2.2 = 0
  · rw [if_pos h]
    exact ⟨0, 0, rfl, fun _ => ⟨rfl, rfl⟩, fun g => absurd h g⟩
  · rw [if_neg h]
    exact ⟨_, _, rfl, fun g => absurd g h, fun _ => ⟨rfl, rfl⟩⟩
/-! The chapter's examples. -/
theorem ex1 : lexV [120, 45, 62, 45, 49] = .tup [.sl 5 [.agg [i64 1, str ⟨#[120]⟩, i64 0, i64 1, i64 1], .agg [i64 4, str ⟨#[45, 62]⟩, i64 0, i64 1, i64 2], .agg [i64 4, str ⟨#[45]⟩, i64 0, i64 1, i64 4], .agg [i64 3, str ⟨#[49]⟩, i64 1, i64 1, i64 5], .agg [i64 0, str ⟨#[]⟩, i64 0, i64 1, i64 6]], .agg [i64 0, i64 0], i64 0] := by kernel_rfl
theorem ex2 : lexV [97, 45, 45, 98] = .tup [.sl 5 [.agg [i64 1, str ⟨#[97]⟩, i64 0, i64 1, i64 1], .agg [i64 0, str ⟨#[]⟩, i64 0, i64 1, i64 5]], .agg [i64 0, i64 0], i64 0] := by kernel_rfl
def ex1V : AV := .tup [.sl 5 [.agg [i64 1, str ⟨#[120]⟩, i64 0, i64 1, i64 1], .agg [i64 4, str ⟨#[45, 62]⟩, i64 0, i64 1, i64 2], .agg [i64 4, str ⟨#[45]⟩, i64 0, i64 1, i64 4], .agg [i64 3, str ⟨#[49]⟩, i64 1, i64 1, i64 5], .agg [i64 0, str ⟨#[]⟩, i64 0, i64 1, i64 6]], .agg [i64 0, i64 0], i64 0]
def ex2V : AV := .tup [.sl 5 [.agg [i64 1, str ⟨#[97]⟩, i64 0, i64 1, i64 1], .agg [i64 0, str ⟨#[]⟩, i64 0, i64 1, i64 5]], .agg [i64 0, i64 0], i64 0]
theorem ex1_calls (hΓ : A.Words (GL w mx te)) : APure prog (GL w mx te) 5 [str ⟨#[120, 45, 62, 45, 49]⟩] ex1V := by
  rw [show ex1V = _ from ex1.symm]
  exact lex_calls hΓ [120, 45, 62, 45, 49] (by decide)
theorem ex2_calls (hΓ : A.Words (GL w mx te)) : APure prog (GL w mx te) 5 [str ⟨#[97, 45, 45, 98]⟩] ex2V := by
  rw [show ex2V = _ from ex2.symm]
  exact lex_calls hΓ [97, 45, 45, 98] (by decide)
theorem n5 : (((5 : Nat) : Int) == 5) = true := rfl
theorem n2 : (((2 : Nat) : Int) == 2) = true := rfl
theorem n1 : ((1 : Int) == 1) = true := rfl
theorem n0 : ((0 : Int) == 0) = true := rfl
theorem at51 {l : List AV} {a b : AV} (k : IntKind) : aAt 5 (.sl 5 (a :: b :: l)) (.val (.int k 1)) = some (.er b.cells) := at_sl (i := 1) rfl
theorem at53 {l : List AV} {a b c d : AV} (k : IntKind) : aAt 5 (.sl 5 (a :: b :: c :: d :: l)) (.val (.int k 3)) = some (.er d.cells) := at_sl (i := 3) rfl
theorem eqS45 (T : TypeId) (s : ByteArray) : aBin prog .eql T (str s) (str s) = some (.val (.bool true)) := by
  simp [aBin, aStr]
end Lx
end Go.Proofs.Tryd
/-! Lexing: what the walk through the reference needs. -/
namespace Go.Proofs.Tryd
set_option linter.unusedSimpArgs false
set_option linter.unusedVariables false
open Go Go.Proofs.Ev
namespace Lx
variable {Γ : List (Nat × List AV)} {w : AV} {mx : Int} {te : TypeId}
theorem place_succ {S : List UInt8} {p : Nat} (h : p < S.length) : place S (p + 1) = stp (place S p) S[p] := by
  rw [place_add, List.drop_eq_getElem_cons h]
  rfl
theorem place_all {S : List UInt8} {p q : Nat} (h : S.length ≤ p) (h2 : S.length ≤ q) : place S p = place S q := by
  unfold place
  rw [List.take_of_length_le h, List.take_of_length_le h2]
theorem pre_take (x l : List UInt8) : decide (l.take x.length = x) = x.isPrefixOf l := by
  rw [Bool.eq_iff_iff, decide_eq_true_eq, List.isPrefixOf_iff_prefix, List.prefix_iff_eq_take]
  exact eq_comm
theorem pre_short {x l : List UInt8} (h : l.length < x.length) : x.isPrefixOf l = false := by
  apply eq_false_of_ne_true
  intro hp
  have := List.IsPrefix.length_le (List.isPrefixOf_iff_prefix.1 hp)
  omega
/-- Where a note's end begins, or the text's end. -/
def noteM (T : List UInt8) : Nat := (noteEnd T).getD T.length
theorem noteM_cons (a : UInt8) (r : List UInt8) : noteM (a :: r) = if [42, 41].isPrefixOf (a :: r) = true then 0 else noteM r + 1 := by
  unfold noteM
  rw [noteEnd]
  split
  · rfl
  · cases noteEnd r <;> rfl
theorem noteM_le : ∀ T : List UInt8, noteM T ≤ T.length
  | [] => Nat.le_refl _
  | a :: r => by
    rw [noteM_cons]
    split
    · exact Nat.zero_le _
    · exact Nat.succ_le_succ (noteM_le r)
theorem noteM_step : ∀ {T : List UInt8} {n : Nat}, n ≤ noteM T → n < T.length → (!([42, 41].isPrefixOf (T.drop n))) = decide (n < noteM T)
  | [], n, _, h => absurd h (Nat.not_lt_zero n)
  | a :: r, 0, _, _ => by
    rw [noteM_cons, List.drop_zero]
    by_cases hp : [42, 41].isPrefixOf (a :: r) = true
    · rw [if_pos hp, hp]
      rfl
    · rw [if_neg hp, eq_false_of_ne_true hp]
      exact (decide_eq_true (Nat.succ_pos _)).symm
  | a :: r, n + 1, h1, h2 => by
    rw [noteM_cons] at h1 ⊢
    by_cases hp : [42, 41].isPrefixOf (a :: r) = true
    · rw [if_pos hp] at h1
      exact absurd h1 (Nat.not_succ_le_zero n)
    · rw [if_neg hp] at h1 ⊢
      rw [List.drop_succ_cons, noteM_step (by omega) (by simpa using h2)]
      exact decide_eq_decide.2 (by omega)
theorem noteM_none {T : List UInt8} (h : noteEnd T = none) : noteM T = T.length := by unfold noteM; rw [h]; rfl
theorem noteM_some {T : List UInt8} {n : Nat} (h : noteEnd T = some n) : noteM T = n := by unfold noteM; rw [h]; rfl
theorem num_app : ∀ (l m : List UInt8) (a : Nat), num (l ++ m) a = (num l a).bind (num m)
  | [], m, a => rfl
  | c :: l, m, a => by
    rw [List.cons_append, num, num]
    split
    · rfl
    · exact num_app l m _
theorem num_step {l : List UInt8} {n v : Nat} {c : UInt8} (hc : l[n]? = some c) (hv : num (l.take n) 0 = some v) : num (l.take (n + 1)) 0 = if 10 * v + (c.toNat - 48) > 9223372036854775807 then none else some (10 * v + (c.toNat - 48)) := by
  rw [List.take_add_one, hc, num_app, hv]
  rfl
theorem num_none {l : List UInt8} {n R : Nat} (h : n ≤ R) (hv : num (l.take n) 0 = none) : num (l.take R) 0 = none := by
  have e : l.take R = l.take n ++ (l.take R).drop n := by
    conv => lhs; rw [← List.take_append_drop n (l.take R), List.take_take, Nat.min_eq_left h]
  rw [e, num_app, hv]
  rfl
def numV (S : List UInt8) (p n : Nat) : Nat := (num ((S.drop p).take n) 0).getD 0
theorem numV_of {S : List UInt8} {p n v : Nat} (h : num ((S.drop p).take n) 0 = some v) : numV S p n = v := by unfold numV; rw [h]; rfl
theorem quo_gt {v d : Nat} (hd : d ≤ 9) : decide (((v : Nat) : Int) > Int.tdiv (9223372036854775807 - ((d : Nat) : Int)) 10) = decide (10 * v + d > 9223372036854775807) := by
  rw [Int.tdiv_eq_ediv_of_nonneg (by omega)]
  apply decide_eq_decide.2
  omega
def sgK (S : List UInt8) (p j : Nat) : Nat := (signsR.take j).foldl (longer (S.drop p)) 0
theorem sgK_succ {S : List UInt8} {p j : Nat} {sg : List UInt8} (h : signsR[j]? = some sg) : sgK S p (j + 1) = longer (S.drop p) (sgK S p j) sg := by
  unfold sgK
  rw [List.take_add_one, h, Option.toList_some, List.foldl_append]
  rfl
theorem sgK_all (S : List UInt8) (p : Nat) : sgK S p 16 = sign (S.drop p) := signR_eq _
theorem longer_le {r : List UInt8} : ∀ (l : List (List UInt8)) {k : Nat}, k ≤ r.length → l.foldl (longer r) k ≤ r.length
  | [], _, h => h
  | s :: l, k, h => by
    rw [List.foldl_cons]
    refine longer_le l ?_
    unfold longer
    split
    · rename_i hp
      simp only [Bool.and_eq_true] at hp
      exact List.IsPrefix.length_le (List.isPrefixOf_iff_prefix.1 hp.1)
    · exact h
theorem sgK_le (S : List UInt8) (p j : Nat) : sgK S p j ≤ (S.drop p).length := longer_le _ (Nat.zero_le _)
def signsRB : List ByteArray := signsR.map bs
theorem signsRB_at {j : Nat} {s : List UInt8} (h : signsR[j]? = some s) : (signsRB.map str)[j]? = some (str (bs s)) := by
  unfold signsRB
  rw [List.getElem?_map, List.getElem?_map, h]
  rfl
theorem signsR2 : ∀ s ∈ signsR, s.length ≤ 2 := by decide
theorem signsRB_len : signsRB.length = 16 := by decide
theorem row16 (σ : Sto) : aRow prog false σ 39 16 [(0, str ⟨#[40]⟩), (1, str ⟨#[41]⟩), (2, str ⟨#[44]⟩), (3, str ⟨#[59]⟩), (4, str ⟨#[58]⟩), (5, str ⟨#[61]⟩), (6, str ⟨#[60, 62]⟩), (7, str ⟨#[60]⟩), (8, str ⟨#[60, 61]⟩), (9, str ⟨#[62]⟩), (10, str ⟨#[62, 61]⟩), (11, str ⟨#[61, 62]⟩), (12, str ⟨#[45, 62]⟩), (13, str ⟨#[43]⟩), (14, str ⟨#[45]⟩), (15, str ⟨#[42]⟩)] = some (.sl 1 (signsRB.map str), σ) := aRow_sl (by kernel_rfl) (by decide) (row39 (by decide) (by decide) rfl (A.parts_of rfl)) σ
theorem u8_neq10 (c : UInt8) : (((c.toNat : Nat) : Int) != 10) = (c != 10) := u8_neq c 10
theorem wrapL {x : Int} (h1 : -9223372036854775808 ≤ x) (h2 : x ≤ 9223372036854775807) : IntKind.wrap .i64 x = x := by
  have hb : IntKind.bits .i64 = 64 := rfl
  have hs : IntKind.signed .i64 = true := rfl
  simp only [IntKind.wrap, hb, hs, Bool.true_and, decide_eq_true_eq]
  split <;> omega
theorem wrapB {x : Nat} (h : x ≤ 200) : IntKind.wrap .u8 ((x : Nat) : Int) = ((x : Nat) : Int) := by
  have hb : IntKind.bits .u8 = 8 := rfl
  have hs : IntKind.signed .u8 = false := rfl
  simp only [IntKind.wrap, hb, hs, Bool.false_and, Bool.false_eq_true, if_false]
  omega
theorem digit_range {d : UInt8} (h : A.digit d = true) : 48 ≤ d.toNat ∧ d.toNat ≤ 57 := by
  unfold A.digit at h
  simp only [Bool.and_eq_true, decide_eq_true_eq] at h
  omega
/-- A token of the reference. -/
def rtok (S : List UInt8) (k : Tk) : AV := .agg [i64 k.kind, str (bs ((S.drop k.at_).take k.n)), i64 k.v, i64 ((k.at_ : Nat) : Int)]
def rlexV (S : List UInt8) : AV := .tup [rowAV 4 true ((lexM S).1.map (rtok S)), i64 (((lexM S).2.1 : Nat) : Int), i64 (lexM S).2.2]
theorem rlexV_err {S : List UInt8} {q : Nat} {e : Int} (h : lexM S = ([], q, e)) : rlexV S = .tup [.nilsl, i64 ((q : Nat) : Int), i64 e] := by
  unfold rlexV
  rw [h]
  rfl
theorem rlexV_ok {S : List UInt8} {T : List Tk} (h : lexM S = (T, 0, 0)) : rlexV S = .tup [rowAV 4 true (T.map (rtok S)), i64 0, i64 0] := by
  unfold rlexV
  rw [h]
  rfl
theorem ap_rtok {S : List UInt8} {T : List Tk} (hT : T.length ≤ 30000) (k : Tk) (σ : Sto) (o : Nat) {a : AV} (ha : rtok S k = a) : appAt σ true 4 40 (T.map (rtok S)) o [a] (some (.cap T.length 4)) = some (.slo true 4 ((T ++ [k]).map (rtok S)) o, σ.set o (.cap (T.length + 1) 4)) := by
  subst ha
  rw [appAt_one σ true 4 40 _ o T.length (rtok S k) (by simp) (fits_of (by rw [List.length_map]; omega) (by decide))]
  simp
theorem tk_letter {S : List UInt8} {p : Nat} {c : UInt8} {r : List UInt8} (hr : S.drop p = c :: r) (hL : A.letter c = true) : tk (S.drop p) = if A.wordM (bs ((S.drop p).take (run nameC (S.drop p)))) = true then (2, run nameC (S.drop p), 0, 0) else if run nameC (S.drop p) > 60 then (1, run nameC (S.drop p), 0, 4) else (1, run nameC (S.drop p), 0, 0) := by
  rw [hr]
  simp only [tk, if_pos hL]
  rfl
end Lx
end Go.Proofs.Tryd
/-! Lexing: function 7. -/
namespace Go.Proofs.Tryd
set_option linter.unusedSimpArgs false
set_option linter.unusedVariables false
open Go Go.Proofs.Ev
namespace Lx
variable {Γ : List (Nat × List AV)} {w : AV} {mx : Int} {te : TypeId}
set_option maxRecDepth 100000 in
theorem rplace_calls (S : List UInt8) (hS : S.length ≤ 20000) (p : Nat) : APure prog Γ 7 [str (bs S), i64 ((p : Nat) : Int)] (.tup [i64 (place S p).1, i64 (place S p).2]) := by
  refine APure.of func7 rfl fun σ => ?_
  simp only [ntmps7, List.length_cons, List.length_nil, Nat.reduceAdd, Nat.reduceSub, List.replicate_succ, List.replicate_zero, List.cons_append, List.nil_append]
  have hpl := place_le hS
  refine AW.regl false [4, 5] (by rfl) fun K1 hK1 => ?_ -- region 0
  simp only [go_sem, Nat.reduceAdd, Nat.reduceEqDiff, Nat.reduceLeDiff, true_and, bs_size]
  refine hK1 _ _ ?_; try clear hK1 K1
  conv => enter [5]; simp only [setL_cons, setL_nil, List.set_cons_zero, List.set_cons_succ]
  refine AW.regl false [6, 7] (by rfl) fun K2 hK2 => ?_ -- region 1
  simp only [go_sem, Nat.reduceAdd, Nat.reduceEqDiff, Nat.reduceLeDiff, true_and, bs_size]
  refine hK2 _ _ ?_; try clear hK2 K2
  conv => enter [5]; simp only [setL_cons, setL_nil, List.set_cons_zero, List.set_cons_succ]
  refine AW.seq_k fun K3 hK3 => ?_
  refine AW.regl false [8] (by rfl) fun K4 hK4 => ?_ -- region 2
  simp only [go_sem, Nat.reduceAdd, Nat.reduceEqDiff, Nat.reduceLeDiff, true_and, bs_size]
  refine hK4 _ _ ?_; try clear hK4 K4
  conv => enter [5]; simp only [setL_cons, setL_nil, List.set_cons_zero, List.set_cons_succ]
  refine AW.block ?_
  refine AW.loop_wk (α := Nat) (fun i => [(.val (.string (bs S))), (.val (.int .i64 ((p : Nat) : Int))), .any, .any, .any, .any, (.val (.int .i64 ((place S i).1))), (.val (.int .i64 ((place S i).2))), (.val (.int .i64 ((i : Nat) : Int))), .any, .any, .any, .any, .any, .any, .any, .any, .any, .any, .any, .any, .any, .any, .any, .any, .any, .any, .any, .any, .any]) (fun i => σ) (fun i => S.length - i) (fun i => i ≤ S.length ∧ i ≤ p) 0 ?_ ?_
  · exact ⟨⟨Nat.zero_le _, Nat.zero_le _⟩, by simp [Wk, place], rfl⟩
  · rintro i ⟨hi, hip⟩
    obtain ⟨q1, q2, q3, q4⟩ := hpl i
    refine AW.seq_k fun K5 hK5 => ?_
    refine AW.regtf false 17 (.val (.bool (decide (((i : Nat) : Int) < ((p : Nat) : Int)) && decide (((i : Nat) : Int) < ((S.length : Nat) : Int))))) (by rfl) ?_ ?_ -- region 3
    · skip
      cases h11 : (decide (((i : Nat) : Int) < ((p : Nat) : Int)))
      · skip
        simp only [go_sem, Nat.reduceAdd, Nat.reduceEqDiff, Nat.reduceLeDiff, true_and, bs_size, h11]
        try simp [upd_at, h11, bs_size]
      · skip
        simp only [go_sem, Nat.reduceAdd, Nat.reduceEqDiff, Nat.reduceLeDiff, true_and, bs_size, h11]
        try simp [upd_at, h11, bs_size]
    conv => enter [5]; simp only [List.set_cons_zero, List.set_cons_succ]
    refine AW.cond rfl (fun hc17 => ?_) (fun hc17 => ?_)
    · skip
      have hb : i < p ∧ i < S.length := by simpa using hc17
      obtain ⟨c, hc⟩ : ∃ c, S[i]? = some c := ⟨_, List.getElem?_eq_getElem hb.2⟩
      have hps := place_succ hb.2
      have hce : S[i] = c := by have := List.getElem?_eq_getElem hb.2; rw [this] at hc; exact Option.some.inj hc
      rw [hce] at hps
      have w1 := (wrapN (show -1000000000 ≤ (place S i).2 + 1 by omega) (by omega))
      have w2 := (wrapN (show -1000000000 ≤ (place S i).1 + 1 by omega) (by omega))
      have q10 : (((c.toNat : Nat) : Int) == 10) = (c == 10) := u8_eql c 10
      refine AW.skip ?_
      refine hK5 _ _ ?_; try clear hK5 K5
      refine AW.seq_k fun K7 hK7 => ?_
      refine AW.block ?_
      refine AW.regl false [7] (by rfl) fun K8 hK8 => ?_ -- region 5
      simp only [go_sem, Nat.reduceAdd, Nat.reduceEqDiff, Nat.reduceLeDiff, true_and, bs_size, w1]
      refine hK8 _ _ ?_; try clear hK8 K8
      conv => enter [5]; simp only [setL_cons, setL_nil, List.set_cons_zero, List.set_cons_succ]
      refine AW.regl false [25] (by rfl) fun K9 hK9 => ?_ -- region 6
      simp only [go_sem, Nat.reduceAdd, Nat.reduceEqDiff, Nat.reduceLeDiff, true_and, bs_size, idxC hc, q10]
      refine hK9 _ _ ?_; try clear hK9 K9
      conv => enter [5]; simp only [setL_cons, setL_nil, List.set_cons_zero, List.set_cons_succ]
      refine AW.cond rfl (fun hc25 => ?_) (fun hc25 => ?_)
      · skip
        have hct : c = 10 := by simpa using hc25
        have hst : place S (i + 1) = ((place S i).1 + 1, 1) := by rw [hps, stp, if_pos hct]
        refine AW.lastl false [6, 7] (by rfl) fun K hK => ?_ -- region 7
        simp only [go_sem, Nat.reduceAdd, Nat.reduceEqDiff, Nat.reduceLeDiff, true_and, bs_size, w2]
        refine hK _ _ fun env' hw => ?_
        simp only [setL_cons, setL_nil, List.set_cons_zero, List.set_cons_succ] at hw
        refine hK7 _ _ (AW.weaken hw ?_); clear hw; try clear hK7 K7
        refine AW.lastl false [8] (by rfl) fun K hK => ?_ -- region 4
        simp only [go_sem, Nat.reduceAdd, Nat.reduceEqDiff, Nat.reduceLeDiff, true_and, bs_size]
        refine hK _ _ fun env' hw => ?_
        simp only [setL_cons, setL_nil, List.set_cons_zero, List.set_cons_succ] at hw
        refine ⟨i + 1, by omega, ⟨by omega, by omega⟩, ?_, rfl⟩
        refine hw.trans ?_
        simp [Wk, wrapN (show -1000000000 ≤ ((i : Nat) : Int) + 1 by omega) (by omega), hst]
      · skip
        have hct : ¬ c = 10 := by simpa using hc25
        have hst : place S (i + 1) = ((place S i).1, (place S i).2 + 1) := by rw [hps, stp, if_neg hct]
        refine AW.skip ?_
        refine hK7 _ _ ?_; try clear hK7 K7
        refine AW.lastl false [8] (by rfl) fun K hK => ?_ -- region 4
        simp only [go_sem, Nat.reduceAdd, Nat.reduceEqDiff, Nat.reduceLeDiff, true_and, bs_size]
        refine hK _ _ fun env' hw => ?_
        simp only [setL_cons, setL_nil, List.set_cons_zero, List.set_cons_succ] at hw
        refine ⟨i + 1, by omega, ⟨by omega, by omega⟩, ?_, rfl⟩
        refine hw.trans ?_
        simp [Wk, wrapN (show -1000000000 ≤ ((i : Nat) : Int) + 1 by omega) (by omega), hst]
    · skip
      have hb : ¬ (i < p ∧ i < S.length) := fun h => by simp [h.1, h.2] at hc17
      have hpe : place S i = place S p := by
        rcases Nat.lt_or_ge i p with h | h
        · exact place_all (by omega) (by omega)
        · rw [show i = p by omega]
      refine AW.exit ?_
      refine hK3 _ _ ?_; try clear hK3 K3
      refine AW.regl false [4, 5] (by rfl) fun K10 hK10 => ?_ -- region 8
      simp only [go_sem, Nat.reduceAdd, Nat.reduceEqDiff, Nat.reduceLeDiff, true_and, bs_size]
      refine hK10 _ _ ?_; try clear hK10 K10
      conv => enter [5]; simp only [setL_cons, setL_nil, List.set_cons_zero, List.set_cons_succ]
      refine AW.ret ⟨.inr rfl, _, rfl, by simp, ?_⟩ -- return 1
      rw [hpe]
      exact .keep rfl
end Lx
end Go.Proofs.Tryd
/-! Lexing: function 16. -/
namespace Go.Proofs.Tryd
set_option linter.unusedSimpArgs false
set_option linter.unusedVariables false
open Go Go.Proofs.Ev
namespace Lx
variable {Γ : List (Nat × List AV)} {w : AV} {mx : Int} {te : TypeId}
set_option maxRecDepth 100000 in
theorem rbegins_calls (S : List UInt8) (hS : S.length ≤ 20000) (p : Nat) (hp : p ≤ S.length) (x : List UInt8) (hx : x.length ≤ 1000) : APure prog Γ 16 [str (bs S), i64 ((p : Nat) : Int), str (bs x)] (.val (.bool (x.isPrefixOf (S.drop p)))) := by
  refine APure.of func16 rfl fun σ => ?_
  simp only [ntmps16, List.length_cons, List.length_nil, Nat.reduceAdd, Nat.reduceSub, List.replicate_succ, List.replicate_zero, List.cons_append, List.nil_append]
  have w1 := (wrapN (show -1000000000 ≤ ((S.length : Nat) : Int) - ((p : Nat) : Int) by omega) (by omega))
  have w2 : IntKind.wrap .i64 (((p : Nat) : Int) + ((x.length : Nat) : Int)) = ((p + x.length : Nat) : Int) := by rw [(wrapN (show -1000000000 ≤ ((p : Nat) : Int) + ((x.length : Nat) : Int) by omega) (by omega))]; omega
  have hdl : (S.drop p).length = S.length - p := List.length_drop
  refine AW.regl false [6] (by rfl) fun K1 hK1 => ?_ -- region 0
  simp only [go_sem, Nat.reduceAdd, Nat.reduceEqDiff, Nat.reduceLeDiff, true_and, bs_size]
  refine hK1 _ _ ?_; try clear hK1 K1
  conv => enter [5]; simp only [setL_cons, setL_nil, List.set_cons_zero, List.set_cons_succ]
  refine AW.regtf false 6 (.val (.bool (x.isPrefixOf (S.drop p)))) (by rfl) ?_ ?_ -- region 1
  · skip
    cases h13 : (decide (((S.length : Nat) : Int) - ((p : Nat) : Int) ≥ ((x.length : Nat) : Int)))
    · skip
      have hpf : x.isPrefixOf (S.drop p) = false := pre_short (by have h := h13; simp at h; omega)
      simp only [go_sem, Nat.reduceAdd, Nat.reduceEqDiff, Nat.reduceLeDiff, true_and, bs_size, w1, w2, h13, hpf]
      try simp [upd_at, h13, hpf, bs_size, w1, w2]
    · skip
      have hpx : p + x.length ≤ S.length := by have h := h13; simp at h; omega
      have hpt := pre_take x (S.drop p)
      simp only [go_sem, Nat.reduceAdd, Nat.reduceEqDiff, Nat.reduceLeDiff, true_and, bs_size, w1, w2, h13, sls_lh S .i64 .i64 (Nat.le_add_right p x.length) hpx, Nat.add_sub_cancel_left, eqS, hpt]
      try simp [upd_at, h13, sls_lh S .i64 .i64 (Nat.le_add_right p x.length) hpx, Nat.add_sub_cancel_left, eqS, hpt, bs_size, w1, w2]
  conv => enter [5]; simp only [List.set_cons_zero, List.set_cons_succ]
  refine AW.ret ⟨.inr rfl, _, rfl, by simp, ?_⟩ -- return 1
  exact .keep rfl
end Lx
end Go.Proofs.Tryd
/-! Lexing: function 11. -/
namespace Go.Proofs.Tryd
set_option linter.unusedSimpArgs false
set_option linter.unusedVariables false
open Go Go.Proofs.Ev
namespace Lx
variable {Γ : List (Nat × List AV)} {w : AV} {mx : Int} {te : TypeId}
set_option maxRecDepth 100000 in
set_option maxHeartbeats 1000000 in
theorem rskip_calls (S : List UInt8) (hS : S.length ≤ 20000) (p : Nat) (hp : p ≤ S.length) : APure prog Γ 11 [str (bs S), i64 ((p : Nat) : Int)] (.tup [i64 (((p + sk (S.drop p)) : Nat) : Int), i64 (if gapO (S.drop (p + sk (S.drop p))) = true then (((p + sk (S.drop p)) : Nat) : Int) else -1)]) := by
  refine APure.of func11 rfl fun σ => ?_
  simp only [ntmps11, List.length_cons, List.length_nil, Nat.reduceAdd, Nat.reduceSub, List.replicate_succ, List.replicate_zero, List.cons_append, List.nil_append]
  refine AW.regl false [4, 5] (by rfl) fun K1 hK1 => ?_ -- region 0
  simp only [go_sem, Nat.reduceAdd, Nat.reduceEqDiff, Nat.reduceLeDiff, true_and, bs_size]
  refine hK1 _ _ ?_; try clear hK1 K1
  conv => enter [5]; simp only [setL_cons, setL_nil, List.set_cons_zero, List.set_cons_succ]
  refine AW.seq_k fun K2 hK2 => ?_
  refine AW.block ?_
  refine AW.loop_wk (α := Nat) (fun q => [(.val (.string (bs S))), (.val (.int .i64 ((q : Nat) : Int))), .any, .any, .any, .any, .any, .any, .any, .any, .any, .any, .any, .any, .any, .any, .any, .any, .any, .any, .any, .any, .any, .any, .any, .any, .any, .any, .any, .any, .any, .any, .any, .any, .any, .any, .any, .any, .any, .any, .any, .any, .any, .any, .any, .any, .any, .any, .any, .any, .any, .any, .any, .any, .any, .any, .any, .any, .any, .any, .any, .any, .any, .any, .any, .any, .any, .any, .any, .any, .any, .any, .any, .any, .any, .any, .any]) (fun q => σ) (fun q => S.length - q) (fun q => p ≤ q ∧ q ≤ S.length ∧ p + sk (S.drop p) = q + sk (S.drop q)) p ?_ ?_
  · exact ⟨⟨Nat.le_refl _, hp, rfl⟩, by simp [Wk], rfl⟩
  · rintro q ⟨hq1, hq2, hiv⟩
    refine AW.seq_k fun K3 hK3 => ?_
    refine AW.regl false [10] (by rfl) fun K4 hK4 => ?_ -- region 1
    simp only [go_sem, Nat.reduceAdd, Nat.reduceEqDiff, Nat.reduceLeDiff, true_and, bs_size]
    refine hK4 _ _ ?_; try clear hK4 K4
    conv => enter [5]; simp only [setL_cons, setL_nil, List.set_cons_zero, List.set_cons_succ]
    refine AW.cond rfl (fun hc10 => ?_) (fun hc10 => ?_)
    · skip
      have hql : q < S.length := by simpa using hc10
      obtain ⟨c, r', hr⟩ : ∃ c r', S.drop q = c :: r' := ⟨_, _, List.drop_eq_getElem_cons hql⟩
      have hcr : S[q]? = some c := by have := congrArg (·[0]?) hr; simpa [List.getElem?_drop] using this
      have q32 : (((c.toNat : Nat) : Int) == 32) = (c == 32) := u8_eql c 32
      have q9 : (((c.toNat : Nat) : Int) == 9) = (c == 9) := u8_eql c 9
      have q13 : (((c.toNat : Nat) : Int) == 13) = (c == 13) := u8_eql c 13
      have q10 : (((c.toNat : Nat) : Int) == 10) = (c == 10) := u8_eql c 10
      have hgl := gapN_le (S.drop q)
      rw [List.length_drop] at hgl
      refine AW.skip ?_
      refine hK3 _ _ ?_; try clear hK3 K3
      refine AW.block ?_
      refine AW.regcuts fun K5 hK5 => ?_ -- region 2
      refine AOps.cut false 10 20 (.val (.bool (c == 32 || c == 9))) (by rfl) ?_ ?_
      · skip
        cases h14 : (c == 32)
        · skip
          simp only [go_sem, Nat.reduceAdd, Nat.reduceEqDiff, Nat.reduceLeDiff, true_and, bs_size, idxC hcr, q32, q9, q13, q10, blank, List.take_succ_cons, List.take_zero, h14]
          try simp [upd_at, h14, bs_size, idxC hcr, q32, q9, q13, q10, blank]
        · skip
          simp only [go_sem, Nat.reduceAdd, Nat.reduceEqDiff, Nat.reduceLeDiff, true_and, bs_size, idxC hcr, q32, q9, q13, q10, blank, List.take_succ_cons, List.take_zero, h14]
          try simp [upd_at, h14, bs_size, idxC hcr, q32, q9, q13, q10, blank]
      simp only [List.drop_succ_cons, List.drop_zero, List.set_cons_zero, List.set_cons_succ]
      refine AOps.cut false 6 26 (.val (.bool ((c == 32 || c == 9) || c == 13))) (by rfl) ?_ ?_
      · skip
        cases h20 : ((c == 32 || c == 9))
        · skip
          simp only [go_sem, Nat.reduceAdd, Nat.reduceEqDiff, Nat.reduceLeDiff, true_and, bs_size, idxC hcr, q32, q9, q13, q10, blank, List.take_succ_cons, List.take_zero, h20]
          try simp [upd_at, h20, bs_size, idxC hcr, q32, q9, q13, q10, blank]
        · skip
          simp only [go_sem, Nat.reduceAdd, Nat.reduceEqDiff, Nat.reduceLeDiff, true_and, bs_size, idxC hcr, q32, q9, q13, q10, blank, List.take_succ_cons, List.take_zero, h20]
          try simp [upd_at, h20, bs_size, idxC hcr, q32, q9, q13, q10, blank]
      simp only [List.drop_succ_cons, List.drop_zero, List.set_cons_zero, List.set_cons_succ]
      refine AOps.cut false 6 32 (.val (.bool (blank c))) (by rfl) ?_ ?_
      · skip
        cases h26 : (((c == 32 || c == 9) || c == 13))
        · skip
          simp only [go_sem, Nat.reduceAdd, Nat.reduceEqDiff, Nat.reduceLeDiff, true_and, bs_size, idxC hcr, q32, q9, q13, q10, blank, List.take_succ_cons, List.take_zero, h26]
          try simp [upd_at, h26, bs_size, idxC hcr, q32, q9, q13, q10, blank]
        · skip
          simp only [go_sem, Nat.reduceAdd, Nat.reduceEqDiff, Nat.reduceLeDiff, true_and, bs_size, idxC hcr, q32, q9, q13, q10, blank, List.take_succ_cons, List.take_zero, h26]
          try simp [upd_at, h26, bs_size, idxC hcr, q32, q9, q13, q10, blank]
      simp only [List.drop_succ_cons, List.drop_zero, List.set_cons_zero, List.set_cons_succ]
      refine AOps.nil (hK5 _ _ ?_); try clear hK5 K5
      refine AW.cond rfl (fun hc32 => ?_) (fun hc32 => ?_)
      · skip
        have hb : blank c = true := hc32
        have hg : gapN (S.drop q) = 1 := by rw [hr]; exact gap_blank hb _
        have hg0 : ¬ (1 : Nat) = 0 := by decide
        have hgw := (wrapN (show -1000000000 ≤ ((q : Nat) : Int) + 1 by omega) (by omega))
        refine AW.lastl false [1] (by rfl) fun K hK => ?_ -- region 3
        simp only [go_sem, Nat.reduceAdd, Nat.reduceEqDiff, Nat.reduceLeDiff, true_and, bs_size]
        refine hK _ _ fun env' hw => ?_
        simp only [setL_cons, setL_nil, List.set_cons_zero, List.set_cons_succ] at hw
        refine ⟨q + gapN (S.drop q), ?_, ⟨?_, ?_, ?_⟩, ?_, rfl⟩
        · omega
        · omega
        · omega
        · rw [hiv]
          exact sk_next rfl (by rw [hg]; exact hg0)
        · rw [hg]
          refine hw.trans ?_
          simp [Wk, hgw]
          try omega
      · skip
        have hb : ¬ blank c = true := ne_true_of_eq_false hc32
        refine AW.regl false [37] (by rfl) fun K6 hK6 => ?_ -- region 4
        simp only [go_sem, Nat.reduceAdd, Nat.reduceEqDiff, Nat.reduceLeDiff, true_and, bs_size]
        refine sC.of en16 ((rbegins_calls S hS q (by omega) [45, 45] (by decide)).on _).here (by rfl) ?_
        simp only [go_sem, Nat.reduceAdd, Nat.reduceEqDiff, Nat.reduceLeDiff, true_and, bs_size]
        refine hK6 _ _ ?_; try clear hK6 K6
        conv => enter [5]; simp only [setL_cons, setL_nil, List.set_cons_zero, List.set_cons_succ]
        refine AW.cond rfl (fun hc37 => ?_) (fun hc37 => ?_)
        · skip
          have hd : [45, 45].isPrefixOf (c :: r') = true := by rw [← hr]; exact hc37
          obtain ⟨R, hR⟩ : ∃ z, z = run (fun c => c != 10) (S.drop q) := ⟨_, rfl⟩
          have hg : gapN (S.drop q) = R := by
            rw [hR, hr]
            show (if blank c = true then _ else _) = _
            rw [if_neg hb, if_pos hd]
          have hg0 : ¬ R = 0 := by
            have := run_pos (p := fun c => c != 10) (c := c) (r := r') (dash_ne hd)
            rw [← hr, ← hR] at this
            omega
          rw [hg] at hgl
          have hgw : True := trivial
          refine AW.block ?_
          refine AW.loop_wk (α := Nat) (fun n => [(.val (.string (bs S))), (.val (.int .i64 (((q + n) : Nat) : Int))), .any, .any, .any, .any, .any, .any, .any, .any, .any, .any, .any, .any, .any, .any, .any, .any, .any, .any, .any, .any, .any, .any, .any, .any, .any, .any, .any, .any, .any, .any, .any, .any, .any, .any, .any, .any, .any, .any, .any, .any, .any, .any, .any, .any, .any, .any, .any, .any, .any, .any, .any, .any, .any, .any, .any, .any, .any, .any, .any, .any, .any, .any, .any, .any, .any, .any, .any, .any, .any, .any, .any, .any, .any, .any, .any]) (fun n => σ) (fun n => R - n) (fun n => n ≤ R) 0 ?_ ?_
          · exact ⟨Nat.zero_le _, by simp [Wk], rfl⟩
          · intro n hn
            refine AW.seq_k fun K7 hK7 => ?_
            have hlt : q + n < S.length → ∃ d, S[q + n]? = some d ∧ (d != 10) = decide (n < R) := fun h => ⟨_, List.getElem?_eq_getElem h, by rw [hR]; exact run_step (p := fun c => c != 10) (r := S.drop q) (by omega) (by rw [List.getElem?_drop]; exact List.getElem?_eq_getElem h)⟩
            refine AW.regtf false 47 (.val (.bool (decide (n < R)))) (by rfl) ?_ ?_ -- region 5
            · skip
              cases h41 : (decide (((q + n : Nat) : Int) < ((S.length : Nat) : Int)))
              · skip
                have hnR : decide (n < R) = false := decide_eq_false (by simp at h41; omega)
                simp only [go_sem, Nat.reduceAdd, Nat.reduceEqDiff, Nat.reduceLeDiff, true_and, bs_size, h41, hnR]
                try simp [upd_at, h41, hnR, bs_size]
              · skip
                obtain ⟨d, hd1, hd2⟩ := hlt (by simp at h41; omega)
                simp only [go_sem, Nat.reduceAdd, Nat.reduceEqDiff, Nat.reduceLeDiff, true_and, bs_size, h41, idxC hd1, u8_neq10 d, hd2]
                try simp [upd_at, h41, idxC hd1, u8_neq10 d, hd2, bs_size]
            conv => enter [5]; simp only [List.set_cons_zero, List.set_cons_succ]
            refine AW.cond rfl (fun hc47 => ?_) (fun hc47 => ?_)
            · skip
              have hnR : n < R := by simpa using hc47
              refine AW.skip ?_
              refine hK7 _ _ ?_; try clear hK7 K7
              refine AW.block ?_
              refine AW.lastl false [1] (by rfl) fun K hK => ?_ -- region 6
              simp only [go_sem, Nat.reduceAdd, Nat.reduceEqDiff, Nat.reduceLeDiff, true_and, bs_size]
              refine hK _ _ fun env' hw => ?_
              simp only [setL_cons, setL_nil, List.set_cons_zero, List.set_cons_succ] at hw
              refine ⟨n + 1, by omega, by omega, ?_, rfl⟩
              refine hw.trans ?_
              simp [Wk, wrapN (show -1000000000 ≤ ((q : Nat) : Int) + ((n : Nat) : Int) + 1 by omega) (by omega)]
              try omega
            · skip
              have hnR : n = R := by
                have : ¬ n < R := by simpa using hc47
                omega
              subst hnR
              refine AW.exit ?_
              refine ⟨q + gapN (S.drop q), ?_, ⟨?_, ?_, ?_⟩, ?_, rfl⟩
              · omega
              · omega
              · omega
              · rw [hiv]
                exact sk_next rfl (by rw [hg]; exact hg0)
              · rw [hg]
                skip
                simp [Wk, hgw]
                try omega
        · skip
          have hd : ¬ [45, 45].isPrefixOf (c :: r') = true := by rw [← hr]; exact ne_true_of_eq_false hc37
          refine AW.regl false [52] (by rfl) fun K9 hK9 => ?_ -- region 7
          simp only [go_sem, Nat.reduceAdd, Nat.reduceEqDiff, Nat.reduceLeDiff, true_and, bs_size]
          refine sC.of en16 ((rbegins_calls S hS q (by omega) [40, 42] (by decide)).on _).here (by rfl) ?_
          simp only [go_sem, Nat.reduceAdd, Nat.reduceEqDiff, Nat.reduceLeDiff, true_and, bs_size]
          refine hK9 _ _ ?_; try clear hK9 K9
          conv => enter [5]; simp only [setL_cons, setL_nil, List.set_cons_zero, List.set_cons_succ]
          refine AW.cond rfl (fun hc52 => ?_) (fun hc52 => ?_)
          · skip
            have hs : [40, 42].isPrefixOf (c :: r') = true := by rw [← hr]; exact hc52
            have h2l : 2 ≤ (S.drop q).length := by rw [hr]; have := List.IsPrefix.length_le (List.isPrefixOf_iff_prefix.1 hs); simpa using this
            rw [List.length_drop] at h2l
            obtain ⟨M, hM⟩ : ∃ z, z = noteM (S.drop (q + 2)) := ⟨_, rfl⟩
            have hMl := noteM_le (S.drop (q + 2))
            rw [← hM, List.length_drop] at hMl
            have w2 : IntKind.wrap .i64 (((q : Nat) : Int) + 2) = ((q + 2 : Nat) : Int) := wrapN (by omega) (by omega)
            refine AW.regl false [6] (by rfl) fun K10 hK10 => ?_ -- region 8
            simp only [go_sem, Nat.reduceAdd, Nat.reduceEqDiff, Nat.reduceLeDiff, true_and, bs_size, w2]
            refine hK10 _ _ ?_; try clear hK10 K10
            conv => enter [5]; simp only [setL_cons, setL_nil, List.set_cons_zero, List.set_cons_succ]
            refine AW.seq_k fun K11 hK11 => ?_
            refine AW.block ?_
            refine AW.loop_wk (α := Nat) (fun n => [(.val (.string (bs S))), (.val (.int .i64 ((q : Nat) : Int))), .any, .any, .any, .any, (.val (.int .i64 (((q + 2 + n) : Nat) : Int))), .any, .any, .any, .any, .any, .any, .any, .any, .any, .any, .any, .any, .any, .any, .any, .any, .any, .any, .any, .any, .any, .any, .any, .any, .any, .any, .any, .any, .any, .any, .any, .any, .any, .any, .any, .any, .any, .any, .any, .any, .any, .any, .any, .any, .any, .any, .any, .any, .any, .any, .any, .any, .any, .any, .any, .any, .any, .any, .any, .any, .any, .any, .any, .any, .any, .any, .any, .any, .any, .any]) (fun n => σ) (fun n => M - n) (fun n => n ≤ M) 0 ?_ ?_
            · exact ⟨Nat.zero_le _, by simp [Wk], rfl⟩
            · intro n hn
              refine AW.seq_k fun K12 hK12 => ?_
              have hst : q + 2 + n < S.length → (![42, 41].isPrefixOf (S.drop (q + 2 + n))) = decide (n < M) := fun h => by rw [hM, ← noteM_step (T := S.drop (q + 2)) (by omega) (by rw [List.length_drop]; omega), List.drop_drop]
              refine AW.regtf false 64 (.val (.bool (decide (n < M)))) (by rfl) ?_ ?_ -- region 9
              · skip
                cases h58 : (decide (((q + 2 + n : Nat) : Int) < ((S.length : Nat) : Int)))
                · skip
                  have hnM : decide (n < M) = false := decide_eq_false (by simp at h58; omega)
                  simp only [go_sem, Nat.reduceAdd, Nat.reduceEqDiff, Nat.reduceLeDiff, true_and, bs_size, h58, hnM]
                  try simp [upd_at, h58, hnM, bs_size]
                · skip
                  have hnM := hst (by simp at h58; omega)
                  simp only [go_sem, Nat.reduceAdd, Nat.reduceEqDiff, Nat.reduceLeDiff, true_and, bs_size, h58, hnM]
                  refine sC.of en16 ((rbegins_calls S hS (q + 2 + n) (by omega) [42, 41] (by decide)).on _).here (by rfl) ?_
                  simp only [go_sem, Nat.reduceAdd, Nat.reduceEqDiff, Nat.reduceLeDiff, true_and, bs_size, h58, hnM]
                  try simp [upd_at, h58, hnM, bs_size]
              conv => enter [5]; simp only [List.set_cons_zero, List.set_cons_succ]
              refine AW.cond rfl (fun hc64 => ?_) (fun hc64 => ?_)
              · skip
                have hnM : n < M := by simpa using hc64
                refine AW.skip ?_
                refine hK12 _ _ ?_; try clear hK12 K12
                refine AW.block ?_
                refine AW.lastl false [6] (by rfl) fun K hK => ?_ -- region 10
                simp only [go_sem, Nat.reduceAdd, Nat.reduceEqDiff, Nat.reduceLeDiff, true_and, bs_size]
                refine hK _ _ fun env' hw => ?_
                simp only [setL_cons, setL_nil, List.set_cons_zero, List.set_cons_succ] at hw
                refine ⟨n + 1, by omega, by omega, ?_, rfl⟩
                refine hw.trans ?_
                simp [Wk, wrapN (show -1000000000 ≤ ((q : Nat) : Int) + 2 + ((n : Nat) : Int) + 1 by omega) (by omega)]
                try omega
              · skip
                have hnM : n = M := by
                  have : ¬ n < M := by simpa using hc64
                  omega
                subst hnM
                refine AW.exit ?_
                refine hK11 _ _ ?_; try clear hK11 K11
                refine AW.seq_k fun K14 hK14 => ?_
                refine AW.regl false [70] (by rfl) fun K15 hK15 => ?_ -- region 11
                simp only [go_sem, Nat.reduceAdd, Nat.reduceEqDiff, Nat.reduceLeDiff, true_and, bs_size]
                refine hK15 _ _ ?_; try clear hK15 K15
                conv => enter [5]; simp only [setL_cons, setL_nil, List.set_cons_zero, List.set_cons_succ]
                refine AW.cond rfl (fun hc70 => ?_) (fun hc70 => ?_)
                · skip
                  have hge : q + 2 + n ≥ S.length := by have h := hc70; simp at h; omega
                  have hno : noteEnd ((S.drop q).drop 2) = none := by
                    rw [List.drop_drop]
                    cases h : noteEnd (S.drop (q + 2)) with
                    | none => rfl
                    | some m =>
                      have h2 := noteEnd_le h
                      rw [List.length_drop] at h2
                      rw [noteM_some h] at hM
                      omega
                  have hgn := gap_open hr hb hd hs hno
                  have hpos : p + sk (S.drop p) = q := by rw [hiv, sk_zero hgn.1]; rfl
                  have hgo := hgn.2
                  refine AW.regl false [4, 5] (by rfl) fun K16 hK16 => ?_ -- region 12
                  simp only [go_sem, Nat.reduceAdd, Nat.reduceEqDiff, Nat.reduceLeDiff, true_and, bs_size]
                  refine hK16 _ _ ?_; try clear hK16 K16
                  conv => enter [5]; simp only [setL_cons, setL_nil, List.set_cons_zero, List.set_cons_succ]
                  refine AW.ret ⟨.inr rfl, _, rfl, by simp, ?_⟩ -- return 1
                  rw [hpos, hgo, if_pos rfl]
                  exact .keep rfl
                · skip
                  have hge : ¬ q + 2 + n ≥ S.length := by have h := hc70; simp at h; omega
                  obtain ⟨m, hm⟩ : ∃ m, noteEnd (S.drop (q + 2)) = some m := by
                    cases h : noteEnd (S.drop (q + 2)) with
                    | none =>
                      rw [noteM_none h, List.length_drop] at hM
                      omega
                    | some m => exact ⟨m, rfl⟩
                  rw [noteM_some hm] at hM
                  subst hM
                  have hg := gap_note hr hb hd hs (by rw [List.drop_drop]; exact hm)
                  have hg0 : ¬ n + 4 = 0 := by omega
                  have hgw := (wrapN (show -1000000000 ≤ ((q : Nat) : Int) + 2 + ((n : Nat) : Int) + 2 by omega) (by omega))
                  rw [hg] at hgl
                  refine AW.skip ?_
                  refine hK14 _ _ ?_; try clear hK14 K14
                  refine AW.lastl false [1] (by rfl) fun K hK => ?_ -- region 13
                  simp only [go_sem, Nat.reduceAdd, Nat.reduceEqDiff, Nat.reduceLeDiff, true_and, bs_size]
                  refine hK _ _ fun env' hw => ?_
                  simp only [setL_cons, setL_nil, List.set_cons_zero, List.set_cons_succ] at hw
                  refine ⟨q + gapN (S.drop q), ?_, ⟨?_, ?_, ?_⟩, ?_, rfl⟩
                  · omega
                  · omega
                  · omega
                  · rw [hiv]
                    exact sk_next rfl (by rw [hg]; exact hg0)
                  · rw [hg]
                    refine hw.trans ?_
                    simp [Wk, hgw]
                    try omega
          · skip
            have hs : ¬ [40, 42].isPrefixOf (c :: r') = true := by rw [← hr]; exact ne_true_of_eq_false hc52
            have hgn : gapN (S.drop q) = 0 ∧ gapO (S.drop q) = false := by rw [hr]; exact gap_none (eq_false_of_ne_true hb) (eq_false_of_ne_true hd) (eq_false_of_ne_true hs)
            have hpos : p + sk (S.drop p) = q := by rw [hiv, sk_zero hgn.1]; rfl
            have hgo := hgn.2
            refine AW.regl false [4, 5] (by rfl) fun K17 hK17 => ?_ -- region 14
            simp only [go_sem, Nat.reduceAdd, Nat.reduceEqDiff, Nat.reduceLeDiff, true_and, bs_size]
            refine hK17 _ _ ?_; try clear hK17 K17
            conv => enter [5]; simp only [setL_cons, setL_nil, List.set_cons_zero, List.set_cons_succ]
            refine AW.ret ⟨.inr rfl, _, rfl, by simp, ?_⟩ -- return 2
            rw [hpos, hgo, if_neg (by decide)]
            exact .keep rfl
    · skip
      have hql : q = S.length := by
        have : ¬ q < S.length := by simpa using hc10
        omega
      have hnil : S.drop q = [] := List.drop_eq_nil_of_le (by omega)
      have hsk : sk (S.drop q) = 0 := by rw [hnil]; rfl
      have hpos : p + sk (S.drop p) = q := by omega
      have hgo : gapO (S.drop q) = false := by rw [hnil]; rfl
      refine AW.exit ?_
      refine hK2 _ _ ?_; try clear hK2 K2
      refine AW.regl false [4, 5] (by rfl) fun K18 hK18 => ?_ -- region 15
      simp only [go_sem, Nat.reduceAdd, Nat.reduceEqDiff, Nat.reduceLeDiff, true_and, bs_size]
      refine hK18 _ _ ?_; try clear hK18 K18
      conv => enter [5]; simp only [setL_cons, setL_nil, List.set_cons_zero, List.set_cons_succ]
      refine AW.ret ⟨.inr rfl, _, rfl, by simp, ?_⟩ -- return 3
      rw [hpos, hgo, if_neg (by decide)]
      exact .keep rfl
end Lx
end Go.Proofs.Tryd
/-! Lexing: function 15. -/
namespace Go.Proofs.Tryd
set_option linter.unusedSimpArgs false
set_option linter.unusedVariables false
open Go Go.Proofs.Ev
namespace Lx
variable {Γ : List (Nat × List AV)} {w : AV} {mx : Int} {te : TypeId}
set_option maxRecDepth 100000 in
theorem rsigns_calls : APure prog Γ 15 [] (.sl 1 (signsRB.map str)) := by
  refine APure.of func15 rfl fun σ => ?_
  simp only [ntmps15, List.length_cons, List.length_nil, Nat.reduceAdd, Nat.reduceSub, List.replicate_succ, List.replicate_zero, List.cons_append, List.nil_append]
  refine AW.regl false [0] (by rfl) fun K1 hK1 => ?_ -- region 0
  simp only [go_sem, Nat.reduceAdd, Nat.reduceEqDiff, Nat.reduceLeDiff, true_and, row16]
  refine hK1 _ _ ?_; try clear hK1 K1
  conv => enter [5]; simp only [setL_cons, setL_nil, List.set_cons_zero, List.set_cons_succ]
  refine AW.regl false [0] (by rfl) fun K2 hK2 => ?_ -- region 1
  simp only [go_sem, Nat.reduceAdd, Nat.reduceEqDiff, Nat.reduceLeDiff, true_and, row16]
  refine hK2 _ _ ?_; try clear hK2 K2
  conv => enter [5]; simp only [setL_cons, setL_nil, List.set_cons_zero, List.set_cons_succ]
  refine AW.ret ⟨.inr rfl, _, rfl, by simp, ?_⟩ -- return 1
  exact .keep rfl
end Lx
end Go.Proofs.Tryd
/-! Lexing: function 6. -/
namespace Go.Proofs.Tryd
set_option linter.unusedSimpArgs false
set_option linter.unusedVariables false
open Go Go.Proofs.Ev
namespace Lx
variable {Γ : List (Nat × List AV)} {w : AV} {mx : Int} {te : TypeId}
set_option maxRecDepth 100000 in
set_option maxHeartbeats 2000000 in
theorem rlex_calls (S : List UInt8) (hS : S.length ≤ 20000) : APure prog Γ 6 [str (bs S)] (rlexV S) := by
  refine APure.of func6 rfl fun σ => ?_
  simp only [ntmps6, List.length_cons, List.length_nil, Nat.reduceAdd, Nat.reduceSub, List.replicate_succ, List.replicate_zero, List.cons_append, List.nil_append]
  refine AW.regl false [2, 3, 4] (by rfl) fun K1 hK1 => ?_ -- region 0
  simp only [go_sem, Nat.reduceAdd, Nat.reduceEqDiff, Nat.reduceLeDiff, true_and, bs_size, app_get, app_get0, app_set, app_set0, Option.map_some, Option.map_none]
  refine hK1 _ _ ?_; try clear hK1 K1
  conv => enter [5]; simp only [setL_cons, setL_nil, List.set_cons_zero, List.set_cons_succ]
  refine AW.regl false [5] (by rfl) fun K2 hK2 => ?_ -- region 1
  simp only [go_sem, Nat.reduceAdd, Nat.reduceEqDiff, Nat.reduceLeDiff, true_and, bs_size, app_get, app_get0, app_set, app_set0, Option.map_some, Option.map_none]
  refine hK2 _ _ ?_; try clear hK2 K2
  conv => enter [5]; simp only [setL_cons, setL_nil, List.set_cons_zero, List.set_cons_succ]
  refine AW.cap 4 ?_
  try simp only [List.append_assoc, List.cons_append, List.nil_append]
  refine AW.ownT 5 σ.length rfl ((app_get0 _ _).trans rfl) (by decide) ?_
  try simp only [List.set_cons_zero, List.set_cons_succ]
  refine AW.regl false [6] (by rfl) fun K3 hK3 => ?_ -- region 2
  simp only [go_sem, Nat.reduceAdd, Nat.reduceEqDiff, Nat.reduceLeDiff, true_and, bs_size, app_get, app_get0, app_set, app_set0, Option.map_some, Option.map_none]
  refine hK3 _ _ ?_; try clear hK3 K3
  conv => enter [5]; simp only [setL_cons, setL_nil, List.set_cons_zero, List.set_cons_succ]
  refine AW.block ?_
  refine AW.loop_dr (α := Nat × List Tk) (fun z => [(.val (.string (bs S))), .any, .any, .any, .any, (.slo true 4 ((z.2).map (rtok S)) σ.length), (.val (.int .i64 ((z.1 : Nat) : Int))), .any, .any, .any, .any, .any, .any, .any, .any, .any, .any, .any, .any, .any, .any, .any, .any, .any, .any, .any, .any, .any, .any, .any, .any, .any, .any, .any, .any, .any, .any, .any, .any, .any, .any, .any, .any, .any, .any, .any, .any, .any, .any, .any, .any, .any, .any, .any, .any, .any, .any, .any, .any, .any, .any, .any, .any, .any, .any, .any, .any, .any, .any, .any, .any, .any, .any, .any, .any, .any, .any, .any, .any, .any, .any, .any, .any, .any, .any, .any, .any, .any, .any, .any, .any, .any, .any, .any, .any, .any, .any, .any, .any, .any, .any, .any, .any, .any, .any, .any, .any, .any, .any, .any, .any, .any, .any, .any, .any, .any, .any, .any, .any, .any, .any, .any, .any, .any, .any, .any, .any, .any, .any, .any, .any, .any, .any, .any, .any, .any, .any, .any, .any, .any, .any, .any, .any, .any, .any, .any, .any, .any, .any, .any, .any, .any, .any]) (fun z => σ ++ [.cap z.2.length 4]) (fun z => S.length - z.1) (fun z => z.1 ≤ S.length ∧ z.2.length ≤ z.1 ∧ ∃ f, S.length - z.1 < f ∧ fin z.2 (lexF f S z.1) = lexM S) (0, []) ?_ ?_ ?_
  · exact ⟨⟨Nat.zero_le _, Nat.le_refl _, S.length + 1, by simp, rfl⟩, by simp [Wk], rfl⟩
  · refine fun y _ => ⟨?_, bel_app σ fun a ha => ?_⟩
    · simp only [belL, AV.bel, Bool.and_true, Bool.true_and, Bool.and_eq_true, decide_eq_true_eq, List.length_append, List.length_cons, List.length_nil]
      exact ⟨by omega, belL_map _ _ fun _ _ => rfl⟩
    · simp only [List.mem_cons, List.not_mem_nil, or_false] at ha
      rcases ha with rfl
      rfl
  · rintro ⟨p, T⟩ ⟨hpS, hTl, f, hf, hfin⟩
    simp only at hpS hTl hf hfin
    refine AW.block ?_
    obtain ⟨p1, hp1⟩ : ∃ z, z = p + sk (S.drop p) := ⟨_, rfl⟩
    have hp1l : p1 ≤ S.length := by rw [hp1]; exact sk_drop hpS
    obtain ⟨f, rfl⟩ : ∃ g, f = g + 1 := ⟨f - 1, by omega⟩
    have hsk := rskip_calls (Γ := Γ) S hS p hpS
    rw [← hp1] at hsk
    refine AW.regl false [7, 8] (by rfl) fun K4 hK4 => ?_ -- region 3
    simp only [go_sem, Nat.reduceAdd, Nat.reduceEqDiff, Nat.reduceLeDiff, true_and, bs_size, app_get, app_get0, app_set, app_set0, Option.map_some, Option.map_none, aExtract]
    refine sC.of en11 (hsk.on _).here (by rfl) ?_
    simp only [go_sem, Nat.reduceAdd, Nat.reduceEqDiff, Nat.reduceLeDiff, true_and, bs_size, app_get, app_get0, app_set, app_set0, Option.map_some, Option.map_none, aExtract]
    refine hK4 _ _ ?_; try clear hK4 K4
    conv => enter [5]; simp only [setL_cons, setL_nil, List.set_cons_zero, List.set_cons_succ]
    refine AW.seq_k fun K5 hK5 => ?_
    refine AW.regl false [21] (by rfl) fun K6 hK6 => ?_ -- region 4
    simp only [go_sem, Nat.reduceAdd, Nat.reduceEqDiff, Nat.reduceLeDiff, true_and, bs_size, app_get, app_get0, app_set, app_set0, Option.map_some, Option.map_none]
    refine hK6 _ _ ?_; try clear hK6 K6
    conv => enter [5]; simp only [setL_cons, setL_nil, List.set_cons_zero, List.set_cons_succ]
    refine AW.cond rfl (fun hc21 => ?_) (fun hc21 => ?_)
    · skip
      have hgo : gapO (S.drop p1) = true := by
        by_cases h : gapO (S.drop p1) = true
        · exact h
        · rw [if_neg h] at hc21
          exact absurd hc21 (by decide)
      have hM : lexM S = ([], p1, 2) := by rw [← hfin, hp1]; exact lex_gap (hp1 ▸ hgo)
      refine AW.regl false [2, 3, 4] (by rfl) fun K7 hK7 => ?_ -- region 5
      simp only [go_sem, Nat.reduceAdd, Nat.reduceEqDiff, Nat.reduceLeDiff, true_and, bs_size, app_get, app_get0, app_set, app_set0, Option.map_some, Option.map_none]
      refine hK7 _ _ ?_; try clear hK7 K7
      conv => enter [5]; simp only [setL_cons, setL_nil, List.set_cons_zero, List.set_cons_succ]
      refine AW.ret ⟨.inr rfl, _, rfl, by simp, ?_⟩ -- return 1
      rw [rlexV_err hM, if_pos hgo]
      exact .keep rfl
    · skip
      have hgo : ¬ gapO (S.drop p1) = true := by
        intro h
        rw [if_pos h] at hc21
        simp at hc21
      refine AW.skip ?_
      refine hK5 _ _ ?_; try clear hK5 K5
      refine AW.regl false [6] (by rfl) fun K8 hK8 => ?_ -- region 6
      simp only [go_sem, Nat.reduceAdd, Nat.reduceEqDiff, Nat.reduceLeDiff, true_and, bs_size, app_get, app_get0, app_set, app_set0, Option.map_some, Option.map_none]
      refine hK8 _ _ ?_; try clear hK8 K8
      conv => enter [5]; simp only [setL_cons, setL_nil, List.set_cons_zero, List.set_cons_succ]
      refine AW.seq_k fun K9 hK9 => ?_
      refine AW.regl false [27] (by rfl) fun K10 hK10 => ?_ -- region 7
      simp only [go_sem, Nat.reduceAdd, Nat.reduceEqDiff, Nat.reduceLeDiff, true_and, bs_size, app_get, app_get0, app_set, app_set0, Option.map_some, Option.map_none]
      refine hK10 _ _ ?_; try clear hK10 K10
      conv => enter [5]; simp only [setL_cons, setL_nil, List.set_cons_zero, List.set_cons_succ]
      refine AW.cond rfl (fun hc27 => ?_) (fun hc27 => ?_)
      · skip
        have hnl : S.length ≤ p1 := by have h := hc27; simp at h; omega
        have hpe : p1 = S.length := by omega
        have hM : lexM S = ((T ++ [Tk.mk 0 p1 0 0]), 0, 0) := by rw [← hfin, hp1]; exact lex_end (hp1 ▸ hgo) (hp1 ▸ hnl)
        have hap0 := fun σ o => ap_rtok (S := S) (T := T) (by omega) ⟨0, p1, 0, 0⟩ σ o (a := .agg [i64 0, str ⟨#[]⟩, i64 0, i64 ((S.length : Nat) : Int)]) (by rw [hpe]; rfl)
        refine AW.regl false [2, 3, 4] (by rfl) fun K11 hK11 => ?_ -- region 8
        simp only [go_sem, Nat.reduceAdd, Nat.reduceEqDiff, Nat.reduceLeDiff, true_and, bs_size, app_get, app_get0, app_set, app_set0, Option.map_some, Option.map_none, row1_28, hap0]
        refine hK11 _ _ ?_; try clear hK11 K11
        conv => enter [5]; simp only [setL_cons, setL_nil, List.set_cons_zero, List.set_cons_succ]
        refine AW.ret ⟨.inr rfl, _, rfl, by simp, ?_⟩ -- return 2
        rw [rlexV_ok hM]
        exact .tup (.cons (frz_row (fun _ _ => rfl) (by omega) _) (.cons (.keep rfl) (.cons (.keep rfl) .nil)))
      · skip
        have hnl : ¬ S.length ≤ p1 := by have h := hc27; simp at h; omega
        obtain ⟨c, r', hr⟩ : ∃ c r', S.drop p1 = c :: r' := ⟨_, _, List.drop_eq_getElem_cons (by omega)⟩
        have hcr : S[p1]? = some c := by have := congrArg (·[0]?) hr; simpa [List.getElem?_drop] using this
        refine AW.skip ?_
        refine hK9 _ _ ?_; try clear hK9 K9
        refine AW.regl false [9] (by rfl) fun K12 hK12 => ?_ -- region 9
        simp only [go_sem, Nat.reduceAdd, Nat.reduceEqDiff, Nat.reduceLeDiff, true_and, bs_size, app_get, app_get0, app_set, app_set0, Option.map_some, Option.map_none]
        refine hK12 _ _ ?_; try clear hK12 K12
        conv => enter [5]; simp only [setL_cons, setL_nil, List.set_cons_zero, List.set_cons_succ, upd_none, upd_at]
        refine AW.regl false [10] (by rfl) fun K13 hK13 => ?_ -- region 10
        simp only [go_sem, Nat.reduceAdd, Nat.reduceEqDiff, Nat.reduceLeDiff, true_and, bs_size, app_get, app_get0, app_set, app_set0, Option.map_some, Option.map_none]
        refine hK13 _ _ ?_; try clear hK13 K13
        conv => enter [5]; simp only [setL_cons, setL_nil, List.set_cons_zero, List.set_cons_succ]
        refine AW.seq_k fun K14 hK14 => ?_
        refine AW.regl false [40] (by rfl) fun K15 hK15 => ?_ -- region 11
        simp only [go_sem, Nat.reduceAdd, Nat.reduceEqDiff, Nat.reduceLeDiff, true_and, bs_size, app_get, app_get0, app_set, app_set0, Option.map_some, Option.map_none, idxC hcr]
        refine sC.of en12 ((A.letter_calls c).on _).here (by rfl) ?_
        simp only [go_sem, Nat.reduceAdd, Nat.reduceEqDiff, Nat.reduceLeDiff, true_and, bs_size, app_get, app_get0, app_set, app_set0, Option.map_some, Option.map_none, idxC hcr]
        refine hK15 _ _ ?_; try clear hK15 K15
        conv => enter [5]; simp only [setL_cons, setL_nil, List.set_cons_zero, List.set_cons_succ]
        refine AW.cond rfl (fun hc40 => ?_) (fun hc40 => ?_)
        · skip
          have hL : A.letter c = true := hc40
          have hkl := tk_letter hr hL
          obtain ⟨R, hR⟩ : ∃ z, z = run nameC (S.drop p1) := ⟨_, rfl⟩
          have hRl := run_le nameC (S.drop p1)
          rw [← hR] at hkl
          rw [← hR, List.length_drop] at hRl
          refine AW.seq_k fun K16 hK16 => ?_
          refine AW.block ?_
          refine AW.loop_wk (α := Nat) (fun n => [(.val (.string (bs S))), .any, .any, .any, .any, (.slo true 4 ((T).map (rtok S)) σ.length), (.val (.int .i64 ((p1 : Nat) : Int))), .any, .any, (.ref (σ.length + 1) 0), (.val (.int .i64 (((p1 + n) : Nat) : Int))), .any, .any, .any, .any, .any, .any, .any, .any, .any, .any, .any, .any, .any, .any, .any, .any, .any, .any, .any, .any, .any, .any, .any, .any, .any, .any, .any, .any, .any, .any, .any, .any, .any, .any, .any, .any, .any, .any, .any, .any, .any, .any, .any, .any, .any, .any, .any, .any, .any, .any, .any, .any, .any, .any, .any, .any, .any, .any, .any, .any, .any, .any, .any, .any, .any, .any, .any, .any, .any, .any, .any, .any, .any, .any, .any, .any, .any, .any, .any, .any, .any, .any, .any, .any, .any, .any, .any, .any, .any, .any, .any, .any, .any, .any, .any, .any, .any, .any, .any, .any, .any, .any, .any, .any, .any, .any, .any, .any, .any, .any, .any, .any, .any, .any, .any, .any, .any, .any, .any, .any, .any, .any, .any, .any, .any, .any, .any, .any, .any, .any, .any, .any, .any, .any, .any, .any, .any, .any, .any, .any, .any, .any]) (fun n => σ ++ [.cap T.length 4, .cells [.val (.int .i64 0), .val (.string ⟨#[]⟩), .val (.int .i64 0), .val (.int .i64 ((p1 : Nat) : Int))]]) (fun n => R - n) (fun n => n ≤ R) 0 ?_ ?_
          · exact ⟨Nat.zero_le _, by simp [Wk], rfl⟩
          · intro n hn
            refine AW.seq_k fun K17 hK17 => ?_
            have hlt : p1 + n < S.length → ∃ d, S[p1 + n]? = some d ∧ nameC d = decide (n < R) := fun h => ⟨_, List.getElem?_eq_getElem h, by rw [hR]; exact run_step (p := nameC) (r := S.drop p1) (by omega) (by rw [List.getElem?_drop]; exact List.getElem?_eq_getElem h)⟩
            refine AW.regtf false 56 (.val (.bool (decide (n < R)))) (by rfl) ?_ ?_ -- region 12
            · skip
              cases h44 : (decide (((p1 + n : Nat) : Int) < ((S.length : Nat) : Int)))
              · skip
                have hnR : decide (n < R) = false := decide_eq_false (by simp at h44; omega)
                simp only [go_sem, Nat.reduceAdd, Nat.reduceEqDiff, Nat.reduceLeDiff, true_and, bs_size, app_get, app_get0, app_set, app_set0, Option.map_some, Option.map_none, h44, hnR]
                try simp [upd_at, h44, hnR, bs_size, app_get, app_get0, app_set, app_set0, Option.map_some, Option.map_none]
              · skip
                obtain ⟨d, hd1, hd2⟩ := hlt (by simp at h44; omega)
                cases h49 : (A.letter d)
                · skip
                  have hnR : A.digit d = decide (n < R) := by rw [← hd2, nameC, h49]; rfl
                  simp only [go_sem, Nat.reduceAdd, Nat.reduceEqDiff, Nat.reduceLeDiff, true_and, bs_size, app_get, app_get0, app_set, app_set0, Option.map_some, Option.map_none, h44, idxC hd1, h49, hnR]
                  refine sC.of en12 ((A.letter_calls d).on _).here (by rfl) ?_
                  simp only [go_sem, Nat.reduceAdd, Nat.reduceEqDiff, Nat.reduceLeDiff, true_and, bs_size, app_get, app_get0, app_set, app_set0, Option.map_some, Option.map_none, h44, idxC hd1, h49, hnR]
                  refine sC.of en13 ((A.digit_calls d).on _).here (by rfl) ?_
                  simp only [go_sem, Nat.reduceAdd, Nat.reduceEqDiff, Nat.reduceLeDiff, true_and, bs_size, app_get, app_get0, app_set, app_set0, Option.map_some, Option.map_none, h44, idxC hd1, h49, hnR]
                  try simp [upd_at, h44, idxC hd1, h49, hnR, bs_size, app_get, app_get0, app_set, app_set0, Option.map_some, Option.map_none]
                · skip
                  have hnR : decide (n < R) = true := by rw [← hd2, nameC, h49]; rfl
                  simp only [go_sem, Nat.reduceAdd, Nat.reduceEqDiff, Nat.reduceLeDiff, true_and, bs_size, app_get, app_get0, app_set, app_set0, Option.map_some, Option.map_none, h44, idxC hd1, h49, hnR]
                  refine sC.of en12 ((A.letter_calls d).on _).here (by rfl) ?_
                  simp only [go_sem, Nat.reduceAdd, Nat.reduceEqDiff, Nat.reduceLeDiff, true_and, bs_size, app_get, app_get0, app_set, app_set0, Option.map_some, Option.map_none, h44, idxC hd1, h49, hnR]
                  try simp [upd_at, h44, idxC hd1, h49, hnR, bs_size, app_get, app_get0, app_set, app_set0, Option.map_some, Option.map_none]
            conv => enter [5]; simp only [List.set_cons_zero, List.set_cons_succ]
            refine AW.cond rfl (fun hc56 => ?_) (fun hc56 => ?_)
            · skip
              have hnR : n < R := by simpa using hc56
              refine AW.skip ?_
              refine hK17 _ _ ?_; try clear hK17 K17
              refine AW.block ?_
              refine AW.lastl false [10] (by rfl) fun K hK => ?_ -- region 13
              simp only [go_sem, Nat.reduceAdd, Nat.reduceEqDiff, Nat.reduceLeDiff, true_and, bs_size, app_get, app_get0, app_set, app_set0, Option.map_some, Option.map_none]
              refine hK _ _ fun env' hw => ?_
              simp only [setL_cons, setL_nil, List.set_cons_zero, List.set_cons_succ] at hw
              refine ⟨n + 1, by omega, by omega, ?_, rfl⟩
              refine hw.trans ?_
              simp [Wk, wrapN (show -1000000000 ≤ ((p1 : Nat) : Int) + ((n : Nat) : Int) + 1 by omega) (by omega)]
              try omega
            · skip
              have hnR : n = R := by
                have : ¬ n < R := by simpa using hc56
                omega
              subst hnR
              have hN : p1 + n ≤ S.length := by omega
              refine AW.exit ?_
              refine hK16 _ _ ?_; try clear hK16 K16
              refine AW.regl false [] (by rfl) fun K19 hK19 => ?_ -- region 14
              simp only [go_sem, Nat.reduceAdd, Nat.reduceEqDiff, Nat.reduceLeDiff, true_and, bs_size, app_get, app_get0, app_set, app_set0, Option.map_some, Option.map_none]
              refine hK19 _ _ ?_; try clear hK19 K19
              conv => enter [5]; simp only [setL_cons, setL_nil, List.set_cons_zero, List.set_cons_succ, upd_none, upd_at]
              refine AW.regl false [64] (by rfl) fun K20 hK20 => ?_ -- region 15
              simp only [go_sem, Nat.reduceAdd, Nat.reduceEqDiff, Nat.reduceLeDiff, true_and, bs_size, app_get, app_get0, app_set, app_set0, Option.map_some, Option.map_none, sls_lh S .i64 .i64 (Nat.le_add_right _ _) hN, Nat.add_sub_cancel_left]
              refine sC.of en14 ((A.rword_calls _).on _).here (by rfl) ?_
              simp only [go_sem, Nat.reduceAdd, Nat.reduceEqDiff, Nat.reduceLeDiff, true_and, bs_size, app_get, app_get0, app_set, app_set0, Option.map_some, Option.map_none, sls_lh S .i64 .i64 (Nat.le_add_right _ _) hN, Nat.add_sub_cancel_left]
              refine hK20 _ _ ?_; try clear hK20 K20
              conv => enter [5]; simp only [setL_cons, setL_nil, List.set_cons_zero, List.set_cons_succ]
              refine AW.cond rfl (fun hc64 => ?_) (fun hc64 => ?_)
              · skip
                have hW : A.wordM (bs ((S.drop p1).take n)) = true := hc64
                have ht : tk (S.drop p1) = (2, n, 0, 0) := by rw [hkl, if_pos hW]
                have hap := fun σ o => ap_rtok (S := S) (T := T) (by omega) ⟨2, p1, n, 0⟩ σ o (a := .agg [i64 2, str (bs ((S.drop p1).take (n))), i64 (0), i64 ((p1 : Nat) : Int)]) rfl
                refine AW.lastl false [] (by rfl) fun K hK => ?_ -- region 16
                simp only [go_sem, Nat.reduceAdd, Nat.reduceEqDiff, Nat.reduceLeDiff, true_and, bs_size, app_get, app_get0, app_set, app_set0, Option.map_some, Option.map_none]
                refine hK _ _ fun env' hw => ?_
                simp only [setL_cons, setL_nil, List.set_cons_zero, List.set_cons_succ] at hw
                refine hK14 _ _ (AW.weaken hw ?_); clear hw; try clear hK14 K14
                refine AW.regl false [] (by rfl) fun K21 hK21 => ?_ -- region 36
                simp only [go_sem, Nat.reduceAdd, Nat.reduceEqDiff, Nat.reduceLeDiff, true_and, bs_size, app_get, app_get0, app_set, app_set0, Option.map_some, Option.map_none, sls_lh S .i64 .i64 (Nat.le_add_right _ _) hN, Nat.add_sub_cancel_left]
                refine hK21 _ _ ?_; try clear hK21 K21
                conv => enter [5]; simp only [setL_cons, setL_nil, List.set_cons_zero, List.set_cons_succ, upd_none, upd_at]
                refine AW.regl false [5] (by rfl) fun K22 hK22 => ?_ -- region 37
                simp only [go_sem, Nat.reduceAdd, Nat.reduceEqDiff, Nat.reduceLeDiff, true_and, bs_size, app_get, app_get0, app_set, app_set0, Option.map_some, Option.map_none, row1_28, hap]
                refine hK22 _ _ ?_; try clear hK22 K22
                conv => enter [5]; simp only [setL_cons, setL_nil, List.set_cons_zero, List.set_cons_succ]
                refine AW.lastl false [6] (by rfl) fun K hK => ?_ -- region 38
                simp only [go_sem, Nat.reduceAdd, Nat.reduceEqDiff, Nat.reduceLeDiff, true_and, bs_size, app_get, app_get0, app_set, app_set0, Option.map_some, Option.map_none]
                refine hK _ _ fun env' hw => ?_
                simp only [setL_cons, setL_nil, List.set_cons_zero, List.set_cons_succ] at hw
                have hn1 := tk_le (S.drop p1)
                have hn2 := tk_pos (r := S.drop p1) (by rw [ht])
                rw [ht, List.length_drop] at hn1
                rw [ht] at hn2
                simp only at hn1 hn2
                have hlx := lex_tok (T := T) (f := f) (hp1 ▸ hgo) (hp1 ▸ hnl) (by rw [← hp1, ht])
                rw [← hp1, ht, hfin] at hlx
                refine ⟨(p1 + (tk (S.drop p1)).2.1, T ++ [Tk.mk (tk (S.drop p1)).1 p1 (tk (S.drop p1)).2.1 (tk (S.drop p1)).2.2.1]), ?_, ⟨?_, ?_, f, ?_, ?_⟩, ?_, ?_⟩ <;> (try simp only [ht])
                · omega
                · omega
                · simp only [List.length_append, List.length_cons, List.length_nil]; omega
                · omega
                · exact hlx.symm
                · refine hw.trans ?_
                  simp [Wk]
                · simp [List.take_append, List.take_of_length_le]
              · skip
                have hW : ¬ A.wordM (bs ((S.drop p1).take n)) = true := ne_true_of_eq_false hc64
                have w68 : IntKind.wrap .i64 (((p1 + n : Nat) : Int) - ((p1 : Nat) : Int)) = ((n : Nat) : Int) := by rw [wrapN (by omega) (by omega)]; omega
                refine AW.regl false [69] (by rfl) fun K23 hK23 => ?_ -- region 17
                simp only [go_sem, Nat.reduceAdd, Nat.reduceEqDiff, Nat.reduceLeDiff, true_and, bs_size, app_get, app_get0, app_set, app_set0, Option.map_some, Option.map_none, w68]
                refine hK23 _ _ ?_; try clear hK23 K23
                conv => enter [5]; simp only [setL_cons, setL_nil, List.set_cons_zero, List.set_cons_succ]
                refine AW.cond rfl (fun hc69 => ?_) (fun hc69 => ?_)
                · skip
                  have h60 : n > 60 := by have h := hc69; simp at h; omega
                  have ht : tk (S.drop p1) = (1, n, 0, 4) := by rw [hkl, if_neg hW, if_pos h60]
                  have hM : lexM S = ([], p1, 4) := by
                    have h := lex_err (T := T) (f := f) (hp1 ▸ hgo) (hp1 ▸ hnl) (by rw [← hp1, ht]; exact show ¬ (4 : Int) = 0 by decide)
                    rw [hfin, ← hp1, ht] at h
                    exact h
                  refine AW.regl false [2, 3, 4] (by rfl) fun K24 hK24 => ?_ -- region 18
                  simp only [go_sem, Nat.reduceAdd, Nat.reduceEqDiff, Nat.reduceLeDiff, true_and, bs_size, app_get, app_get0, app_set, app_set0, Option.map_some, Option.map_none]
                  refine hK24 _ _ ?_; try clear hK24 K24
                  conv => enter [5]; simp only [setL_cons, setL_nil, List.set_cons_zero, List.set_cons_succ]
                  refine AW.ret ⟨.inr rfl, _, rfl, by simp, ?_⟩ -- return 3
                  rw [rlexV_err hM]
                  exact .keep rfl
                · skip
                  have h60 : ¬ n > 60 := by have h := hc69; simp at h; omega
                  have ht : tk (S.drop p1) = (1, n, 0, 0) := by rw [hkl, if_neg hW, if_neg h60]
                  have hap := fun σ o => ap_rtok (S := S) (T := T) (by omega) ⟨1, p1, n, 0⟩ σ o (a := .agg [i64 1, str (bs ((S.drop p1).take (n))), i64 (0), i64 ((p1 : Nat) : Int)]) rfl
                  refine AW.skip ?_
                  refine hK14 _ _ ?_; try clear hK14 K14
                  refine AW.regl false [] (by rfl) fun K25 hK25 => ?_ -- region 36
                  simp only [go_sem, Nat.reduceAdd, Nat.reduceEqDiff, Nat.reduceLeDiff, true_and, bs_size, app_get, app_get0, app_set, app_set0, Option.map_some, Option.map_none, sls_lh S .i64 .i64 (Nat.le_add_right _ _) hN, Nat.add_sub_cancel_left]
                  refine hK25 _ _ ?_; try clear hK25 K25
                  conv => enter [5]; simp only [setL_cons, setL_nil, List.set_cons_zero, List.set_cons_succ, upd_none, upd_at]
                  refine AW.regl false [5] (by rfl) fun K26 hK26 => ?_ -- region 37
                  simp only [go_sem, Nat.reduceAdd, Nat.reduceEqDiff, Nat.reduceLeDiff, true_and, bs_size, app_get, app_get0, app_set, app_set0, Option.map_some, Option.map_none, row1_28, hap]
                  refine hK26 _ _ ?_; try clear hK26 K26
                  conv => enter [5]; simp only [setL_cons, setL_nil, List.set_cons_zero, List.set_cons_succ]
                  refine AW.lastl false [6] (by rfl) fun K hK => ?_ -- region 38
                  simp only [go_sem, Nat.reduceAdd, Nat.reduceEqDiff, Nat.reduceLeDiff, true_and, bs_size, app_get, app_get0, app_set, app_set0, Option.map_some, Option.map_none]
                  refine hK _ _ fun env' hw => ?_
                  simp only [setL_cons, setL_nil, List.set_cons_zero, List.set_cons_succ] at hw
                  have hn1 := tk_le (S.drop p1)
                  have hn2 := tk_pos (r := S.drop p1) (by rw [ht])
                  rw [ht, List.length_drop] at hn1
                  rw [ht] at hn2
                  simp only at hn1 hn2
                  have hlx := lex_tok (T := T) (f := f) (hp1 ▸ hgo) (hp1 ▸ hnl) (by rw [← hp1, ht])
                  rw [← hp1, ht, hfin] at hlx
                  refine ⟨(p1 + (tk (S.drop p1)).2.1, T ++ [Tk.mk (tk (S.drop p1)).1 p1 (tk (S.drop p1)).2.1 (tk (S.drop p1)).2.2.1]), ?_, ⟨?_, ?_, f, ?_, ?_⟩, ?_, ?_⟩ <;> (try simp only [ht])
                  · omega
                  · omega
                  · simp only [List.length_append, List.length_cons, List.length_nil]; omega
                  · omega
                  · exact hlx.symm
                  · refine hw.trans ?_
                    simp [Wk]
                  · simp [List.take_append, List.take_of_length_le]
        · skip
          have hL : ¬ A.letter c = true := ne_true_of_eq_false hc40
          refine AW.regl false [74] (by rfl) fun K27 hK27 => ?_ -- region 19
          simp only [go_sem, Nat.reduceAdd, Nat.reduceEqDiff, Nat.reduceLeDiff, true_and, bs_size, app_get, app_get0, app_set, app_set0, Option.map_some, Option.map_none, idxC hcr]
          refine sC.of en13 ((A.digit_calls c).on _).here (by rfl) ?_
          simp only [go_sem, Nat.reduceAdd, Nat.reduceEqDiff, Nat.reduceLeDiff, true_and, bs_size, app_get, app_get0, app_set, app_set0, Option.map_some, Option.map_none, idxC hcr]
          refine hK27 _ _ ?_; try clear hK27 K27
          conv => enter [5]; simp only [setL_cons, setL_nil, List.set_cons_zero, List.set_cons_succ]
          refine AW.cond rfl (fun hc74 => ?_) (fun hc74 => ?_)
          · skip
            have hD : A.digit c = true := hc74
            have hkd := tk_digit hr hL hD
            obtain ⟨R, hR⟩ : ∃ z, z = run A.digit (S.drop p1) := ⟨_, rfl⟩
            have hRl := run_le A.digit (S.drop p1)
            rw [← hR] at hkd
            rw [← hR, List.length_drop] at hRl
            refine AW.regl false [] (by rfl) fun K28 hK28 => ?_ -- region 20
            simp only [go_sem, Nat.reduceAdd, Nat.reduceEqDiff, Nat.reduceLeDiff, true_and, bs_size, app_get, app_get0, app_set, app_set0, Option.map_some, Option.map_none]
            refine hK28 _ _ ?_; try clear hK28 K28
            conv => enter [5]; simp only [setL_cons, setL_nil, List.set_cons_zero, List.set_cons_succ, upd_none, upd_at]
            refine AW.block ?_
            refine AW.loop_wk (α := Nat) (fun n => [(.val (.string (bs S))), .any, .any, .any, .any, (.slo true 4 ((T).map (rtok S)) σ.length), (.val (.int .i64 ((p1 : Nat) : Int))), .any, .any, (.ref (σ.length + 1) 0), (.val (.int .i64 (((p1 + n) : Nat) : Int))), .any, .any, .any, .any, .any, .any, .any, .any, .any, .any, .any, .any, .any, .any, .any, .any, .any, .any, .any, .any, .any, .any, .any, .any, .any, .any, .any, .any, .any, .any, .any, .any, .any, .any, .any, .any, .any, .any, .any, .any, .any, .any, .any, .any, .any, .any, .any, .any, .any, .any, .any, .any, .any, .any, .any, .any, .any, .any, .any, .any, .any, .any, .any, .any, .any, .any, .any, .any, .any, .any, .any, .any, .any, .any, .any, .any, .any, .any, .any, .any, .any, .any, .any, .any, .any, .any, .any, .any, .any, .any, .any, .any, .any, .any, .any, .any, .any, .any, .any, .any, .any, .any, .any, .any, .any, .any, .any, .any, .any, .any, .any, .any, .any, .any, .any, .any, .any, .any, .any, .any, .any, .any, .any, .any, .any, .any, .any, .any, .any, .any, .any, .any, .any, .any, .any, .any, .any, .any, .any, .any, .any, .any]) (fun n => σ ++ [.cap T.length 4, .cells [.val (.int .i64 3), .val (.string (⟨#[]⟩)), .val (.int .i64 (((numV S p1 n) : Nat) : Int)), .val (.int .i64 ((p1 : Nat) : Int))]]) (fun n => R - n) (fun n => n ≤ R ∧ num ((S.drop p1).take n) 0 = some (numV S p1 n)) 0 ?_ ?_
            · exact ⟨⟨Nat.zero_le _, rfl⟩, by simp [Wk], rfl⟩
            · rintro n ⟨hn, hnv⟩
              refine AW.seq_k fun K29 hK29 => ?_
              have hlt : p1 + n < S.length → ∃ d, S[p1 + n]? = some d ∧ A.digit d = decide (n < R) := fun h => ⟨_, List.getElem?_eq_getElem h, by rw [hR]; exact run_step (p := A.digit) (r := S.drop p1) (by omega) (by rw [List.getElem?_drop]; exact List.getElem?_eq_getElem h)⟩
              refine AW.regtf false 85 (.val (.bool (decide (n < R)))) (by rfl) ?_ ?_ -- region 21
              · skip
                cases h79 : (decide (((p1 + n : Nat) : Int) < ((S.length : Nat) : Int)))
                · skip
                  have hnR : decide (n < R) = false := decide_eq_false (by simp at h79; omega)
                  simp only [go_sem, Nat.reduceAdd, Nat.reduceEqDiff, Nat.reduceLeDiff, true_and, bs_size, app_get, app_get0, app_set, app_set0, Option.map_some, Option.map_none, h79, hnR]
                  try simp [upd_at, h79, hnR, bs_size, app_get, app_get0, app_set, app_set0, Option.map_some, Option.map_none]
                · skip
                  obtain ⟨d, hd1, hd2⟩ := hlt (by simp at h79; omega)
                  simp only [go_sem, Nat.reduceAdd, Nat.reduceEqDiff, Nat.reduceLeDiff, true_and, bs_size, app_get, app_get0, app_set, app_set0, Option.map_some, Option.map_none, h79, idxC hd1, hd2]
                  refine sC.of en13 ((A.digit_calls d).on _).here (by rfl) ?_
                  simp only [go_sem, Nat.reduceAdd, Nat.reduceEqDiff, Nat.reduceLeDiff, true_and, bs_size, app_get, app_get0, app_set, app_set0, Option.map_some, Option.map_none, h79, idxC hd1, hd2]
                  try simp [upd_at, h79, idxC hd1, hd2, bs_size, app_get, app_get0, app_set, app_set0, Option.map_some, Option.map_none]
              conv => enter [5]; simp only [List.set_cons_zero, List.set_cons_succ]
              refine AW.cond rfl (fun hc85 => ?_) (fun hc85 => ?_)
              · skip
                have hnR : n < R := by simpa using hc85
                obtain ⟨d, hd1, hd2⟩ := run_lt (p := A.digit) (r := S.drop p1) (n := n) (by omega)
                have hdS : S[p1 + n]? = some d := by rw [← List.getElem?_drop]; exact hd1
                have hdr := digit_range hd2
                have hst := num_step hd1 hnv
                have hvb := num_le (by decide) hnv
                have w48 : IntKind.wrap .u8 (((d.toNat : Nat) : Int) - 48) = ((d.toNat - 48 : Nat) : Int) := by
                  rw [← wrapB (x := d.toNat - 48) (by omega)]
                  congr 1
                  omega
                have w49 : IntKind.wrap .i64 ((d.toNat - 48 : Nat) : Int) = ((d.toNat - 48 : Nat) : Int) := wrapN (by omega) (by omega)
                have w50 : IntKind.wrap .i64 (9223372036854775807 - ((d.toNat - 48 : Nat) : Int)) = 9223372036854775807 - ((d.toNat - 48 : Nat) : Int) := wrapL (by omega) (by omega)
                have hq := quo_gt (v := numV S p1 n) (d := d.toNat - 48) (by omega)
                have w51 : IntKind.wrap .i64 (Int.tdiv (9223372036854775807 - ((d.toNat - 48 : Nat) : Int)) 10) = Int.tdiv (9223372036854775807 - ((d.toNat - 48 : Nat) : Int)) 10 := by
                  rw [Int.tdiv_eq_ediv_of_nonneg (by omega)]
                  exact wrapL (by omega) (by omega)
                refine AW.skip ?_
                refine hK29 _ _ ?_; try clear hK29 K29
                refine AW.block ?_
                refine AW.regl false [11] (by rfl) fun K31 hK31 => ?_ -- region 22
                simp only [go_sem, Nat.reduceAdd, Nat.reduceEqDiff, Nat.reduceLeDiff, true_and, bs_size, app_get, app_get0, app_set, app_set0, Option.map_some, Option.map_none, idxC hdS, w48, w49]
                refine hK31 _ _ ?_; try clear hK31 K31
                conv => enter [5]; simp only [setL_cons, setL_nil, List.set_cons_zero, List.set_cons_succ]
                refine AW.seq_k fun K32 hK32 => ?_
                refine AW.regl false [96] (by rfl) fun K33 hK33 => ?_ -- region 23
                simp only [go_sem, Nat.reduceAdd, Nat.reduceEqDiff, Nat.reduceLeDiff, true_and, bs_size, app_get, app_get0, app_set, app_set0, Option.map_some, Option.map_none, w50]
                refine hK33 _ _ ?_; try clear hK33 K33
                conv => enter [5]; simp only [setL_cons, setL_nil, List.set_cons_zero, List.set_cons_succ]
                refine AW.cond rfl (fun hc96 => ?_) (fun hc96 => ?_)
                · skip
                  rw [w51, hq] at hc96
                  have hbig : 10 * numV S p1 n + (d.toNat - 48) > 9223372036854775807 := by simpa using hc96
                  rw [if_pos hbig] at hst
                  have ht : tk (S.drop p1) = (3, 0, 0, 4) := by rw [hkd, num_none (show n + 1 ≤ R by omega) hst]
                  have hM : lexM S = ([], p1, 4) := by
                    have h := lex_err (T := T) (f := f) (hp1 ▸ hgo) (hp1 ▸ hnl) (by rw [← hp1, ht]; exact show ¬ (4 : Int) = 0 by decide)
                    rw [hfin, ← hp1, ht] at h
                    exact h
                  refine AW.regl false [2, 3, 4] (by rfl) fun K34 hK34 => ?_ -- region 24
                  simp only [go_sem, Nat.reduceAdd, Nat.reduceEqDiff, Nat.reduceLeDiff, true_and, bs_size, app_get, app_get0, app_set, app_set0, Option.map_some, Option.map_none]
                  refine hK34 _ _ ?_; try clear hK34 K34
                  conv => enter [5]; simp only [setL_cons, setL_nil, List.set_cons_zero, List.set_cons_succ]
                  refine AW.ret ⟨.inr rfl, _, rfl, by simp, ?_⟩ -- return 4
                  rw [rlexV_err hM]
                  exact .keep rfl
                · skip
                  rw [w51, hq] at hc96
                  have hbig : ¬ 10 * numV S p1 n + (d.toNat - 48) > 9223372036854775807 := by have h := hc96; simp at h; omega
                  rw [if_neg hbig] at hst
                  have hv1 := numV_of hst
                  have hnv1 : num ((S.drop p1).take (n + 1)) 0 = some (numV S p1 (n + 1)) := by rw [hv1]; exact hst
                  have w52 : IntKind.wrap .i64 (10 * ((numV S p1 n : Nat) : Int)) = 10 * ((numV S p1 n : Nat) : Int) := wrapL (by omega) (by omega)
                  have w53 : IntKind.wrap .i64 (10 * ((numV S p1 n : Nat) : Int) + ((d.toNat - 48 : Nat) : Int)) = ((numV S p1 (n + 1) : Nat) : Int) := by rw [wrapL (by omega) (by omega), hv1]; omega
                  refine AW.skip ?_
                  refine hK32 _ _ ?_; try clear hK32 K32
                  refine AW.regl false [] (by rfl) fun K35 hK35 => ?_ -- region 25
                  simp only [go_sem, Nat.reduceAdd, Nat.reduceEqDiff, Nat.reduceLeDiff, true_and, bs_size, app_get, app_get0, app_set, app_set0, Option.map_some, Option.map_none, w52, w53]
                  refine hK35 _ _ ?_; try clear hK35 K35
                  conv => enter [5]; simp only [setL_cons, setL_nil, List.set_cons_zero, List.set_cons_succ, upd_none, upd_at]
                  refine AW.lastl false [10] (by rfl) fun K hK => ?_ -- region 26
                  simp only [go_sem, Nat.reduceAdd, Nat.reduceEqDiff, Nat.reduceLeDiff, true_and, bs_size, app_get, app_get0, app_set, app_set0, Option.map_some, Option.map_none]
                  refine hK _ _ fun env' hw => ?_
                  simp only [setL_cons, setL_nil, List.set_cons_zero, List.set_cons_succ] at hw
                  refine ⟨n + 1, by omega, ⟨by omega, hnv1⟩, ?_, rfl⟩
                  refine hw.trans ?_
                  simp [Wk, wrapN (show -1000000000 ≤ ((p1 : Nat) : Int) + ((n : Nat) : Int) + 1 by omega) (by omega)]
                  try omega
              · skip
                have hnR : n = R := by
                  have : ¬ n < R := by simpa using hc85
                  omega
                subst hnR
                have hN : p1 + n ≤ S.length := by omega
                have ht : tk (S.drop p1) = (3, n, ((numV S p1 n : Nat) : Int), 0) := by rw [hkd, hnv]
                have hap := fun σ o => ap_rtok (S := S) (T := T) (by omega) ⟨3, p1, n, ((numV S p1 n : Nat) : Int)⟩ σ o (a := .agg [i64 3, str (bs ((S.drop p1).take (n))), i64 (((numV S p1 n : Nat) : Int)), i64 ((p1 : Nat) : Int)]) rfl
                refine AW.exit ?_
                refine hK14 _ _ ?_; try clear hK14 K14
                refine AW.regl false [] (by rfl) fun K36 hK36 => ?_ -- region 36
                simp only [go_sem, Nat.reduceAdd, Nat.reduceEqDiff, Nat.reduceLeDiff, true_and, bs_size, app_get, app_get0, app_set, app_set0, Option.map_some, Option.map_none, sls_lh S .i64 .i64 (Nat.le_add_right _ _) hN, Nat.add_sub_cancel_left]
                refine hK36 _ _ ?_; try clear hK36 K36
                conv => enter [5]; simp only [setL_cons, setL_nil, List.set_cons_zero, List.set_cons_succ, upd_none, upd_at]
                refine AW.regl false [5] (by rfl) fun K37 hK37 => ?_ -- region 37
                simp only [go_sem, Nat.reduceAdd, Nat.reduceEqDiff, Nat.reduceLeDiff, true_and, bs_size, app_get, app_get0, app_set, app_set0, Option.map_some, Option.map_none, row1_28, hap]
                refine hK37 _ _ ?_; try clear hK37 K37
                conv => enter [5]; simp only [setL_cons, setL_nil, List.set_cons_zero, List.set_cons_succ]
                refine AW.lastl false [6] (by rfl) fun K hK => ?_ -- region 38
                simp only [go_sem, Nat.reduceAdd, Nat.reduceEqDiff, Nat.reduceLeDiff, true_and, bs_size, app_get, app_get0, app_set, app_set0, Option.map_some, Option.map_none]
                refine hK _ _ fun env' hw => ?_
                simp only [setL_cons, setL_nil, List.set_cons_zero, List.set_cons_succ] at hw
                have hn1 := tk_le (S.drop p1)
                have hn2 := tk_pos (r := S.drop p1) (by rw [ht])
                rw [ht, List.length_drop] at hn1
                rw [ht] at hn2
                simp only at hn1 hn2
                have hlx := lex_tok (T := T) (f := f) (hp1 ▸ hgo) (hp1 ▸ hnl) (by rw [← hp1, ht])
                rw [← hp1, ht, hfin] at hlx
                refine ⟨(p1 + (tk (S.drop p1)).2.1, T ++ [Tk.mk (tk (S.drop p1)).1 p1 (tk (S.drop p1)).2.1 (tk (S.drop p1)).2.2.1]), ?_, ⟨?_, ?_, f, ?_, ?_⟩, ?_, ?_⟩ <;> (try simp only [ht])
                · omega
                · omega
                · simp only [List.length_append, List.length_cons, List.length_nil]; omega
                · omega
                · exact hlx.symm
                · refine hw.trans ?_
                  simp [Wk]
                · simp [List.take_append, List.take_of_length_le]
          · skip
            have hD : ¬ A.digit c = true := ne_true_of_eq_false hc74
            have hks := tk_sign hr hL hD
            refine AW.regl false [] (by rfl) fun K38 hK38 => ?_ -- region 27
            simp only [go_sem, Nat.reduceAdd, Nat.reduceEqDiff, Nat.reduceLeDiff, true_and, bs_size, app_get, app_get0, app_set, app_set0, Option.map_some, Option.map_none]
            refine hK38 _ _ ?_; try clear hK38 K38
            conv => enter [5]; simp only [setL_cons, setL_nil, List.set_cons_zero, List.set_cons_succ, upd_none, upd_at]
            refine AW.regl false [12] (by rfl) fun K39 hK39 => ?_ -- region 28
            simp only [go_sem, Nat.reduceAdd, Nat.reduceEqDiff, Nat.reduceLeDiff, true_and, bs_size, app_get, app_get0, app_set, app_set0, Option.map_some, Option.map_none]
            refine sC.of en15 (rsigns_calls.on _).here (by rfl) ?_
            simp only [go_sem, Nat.reduceAdd, Nat.reduceEqDiff, Nat.reduceLeDiff, true_and, bs_size, app_get, app_get0, app_set, app_set0, Option.map_some, Option.map_none]
            refine hK39 _ _ ?_; try clear hK39 K39
            conv => enter [5]; simp only [setL_cons, setL_nil, List.set_cons_zero, List.set_cons_succ]
            refine AW.seq_k fun K40 hK40 => ?_
            refine AW.regl false [13] (by rfl) fun K41 hK41 => ?_ -- region 29
            simp only [go_sem, Nat.reduceAdd, Nat.reduceEqDiff, Nat.reduceLeDiff, true_and, bs_size, app_get, app_get0, app_set, app_set0, Option.map_some, Option.map_none]
            refine hK41 _ _ ?_; try clear hK41 K41
            conv => enter [5]; simp only [setL_cons, setL_nil, List.set_cons_zero, List.set_cons_succ]
            refine AW.block ?_
            refine AW.loop_wk (α := Nat) (fun j => [(.val (.string (bs S))), .any, .any, .any, .any, (.slo true 4 ((T).map (rtok S)) σ.length), (.val (.int .i64 ((p1 : Nat) : Int))), .any, .any, (.ref (σ.length + 1) 0), (.val (.int .i64 (((p1 + sgK S p1 j) : Nat) : Int))), .any, (.sl 1 (signsRB.map str)), (.val (.int .i64 ((j : Nat) : Int))), .any, .any, .any, .any, .any, .any, .any, .any, .any, .any, .any, .any, .any, .any, .any, .any, .any, .any, .any, .any, .any, .any, .any, .any, .any, .any, .any, .any, .any, .any, .any, .any, .any, .any, .any, .any, .any, .any, .any, .any, .any, .any, .any, .any, .any, .any, .any, .any, .any, .any, .any, .any, .any, .any, .any, .any, .any, .any, .any, .any, .any, .any, .any, .any, .any, .any, .any, .any, .any, .any, .any, .any, .any, .any, .any, .any, .any, .any, .any, .any, .any, .any, .any, .any, .any, .any, .any, .any, .any, .any, .any, .any, .any, .any, .any, .any, .any, .any, .any, .any, .any, .any, .any, .any, .any, .any, .any, .any, .any, .any, .any, .any, .any, .any, .any, .any, .any, .any, .any, .any, .any, .any, .any, .any, .any, .any, .any, .any, .any, .any, .any, .any, .any, .any, .any, .any, .any, .any, .any]) (fun j => σ ++ [.cap T.length 4, .cells [.val (.int .i64 4), .val (.string ⟨#[]⟩), .val (.int .i64 0), .val (.int .i64 ((p1 : Nat) : Int))]]) (fun j => 16 - j) (fun j => j ≤ 16) 0 ?_ ?_
            · exact ⟨Nat.zero_le _, by simp [Wk, sgK], rfl⟩
            · intro j hj
              refine AW.seq_k fun K42 hK42 => ?_
              refine AW.regl false [111] (by rfl) fun K43 hK43 => ?_ -- region 30
              simp only [go_sem, Nat.reduceAdd, Nat.reduceEqDiff, Nat.reduceLeDiff, true_and, bs_size, app_get, app_get0, app_set, app_set0, Option.map_some, Option.map_none, List.length_map, signsRB_len]
              refine hK43 _ _ ?_; try clear hK43 K43
              conv => enter [5]; simp only [setL_cons, setL_nil, List.set_cons_zero, List.set_cons_succ]
              refine AW.cond rfl (fun hc111 => ?_) (fun hc111 => ?_)
              · skip
                have hj1 : j < 16 := by have h := hc111; simp at h; omega
                refine AW.skip ?_
                refine hK42 _ _ ?_; try clear hK42 K42
                refine AW.seq_k fun K44 hK44 => ?_
                refine AW.block ?_
                obtain ⟨sg, hsg⟩ : ∃ z, signsR[j]? = some z := ⟨_, List.getElem?_eq_getElem (show j < 16 by omega)⟩
                have hx := signsRB_at hsg
                have hs2 := signsR2 sg (List.mem_of_getElem? hsg)
                have hsk1 := sgK_succ (S := S) (p := p1) hsg
                have hsl := sgK_le S p1 j
                rw [List.length_drop] at hsl
                have w1 : IntKind.wrap .i64 (((p1 : Nat) : Int) + ((sg.length : Nat) : Int)) = ((p1 + sg.length : Nat) : Int) := by rw [wrapN (by omega) (by omega)]; omega
                have hcmp : decide (((p1 + sg.length : Nat) : Int) > ((p1 + sgK S p1 j : Nat) : Int)) = decide (sgK S p1 j < sg.length) := decide_eq_decide.2 (by omega)
                refine AW.regtf false 131 (.val (.bool (sg.isPrefixOf (S.drop p1) && decide (sgK S p1 j < sg.length)))) (by rfl) ?_ ?_ -- region 32
                · skip
                  cases h120 : (sg.isPrefixOf (S.drop p1))
                  · skip
                    simp only [go_sem, Nat.reduceAdd, Nat.reduceEqDiff, Nat.reduceLeDiff, true_and, bs_size, app_get, app_get0, app_set, app_set0, Option.map_some, Option.map_none, at_sl hx, w1, hcmp, h120]
                    refine sC.of en16 ((rbegins_calls S hS p1 (by omega) sg (by omega)).on _).here (by rfl) ?_
                    simp only [go_sem, Nat.reduceAdd, Nat.reduceEqDiff, Nat.reduceLeDiff, true_and, bs_size, app_get, app_get0, app_set, app_set0, Option.map_some, Option.map_none, at_sl hx, w1, hcmp, h120]
                    try simp [upd_at, h120, bs_size, app_get, app_get0, app_set, app_set0, Option.map_some, Option.map_none, at_sl hx, w1, hcmp]
                  · skip
                    simp only [go_sem, Nat.reduceAdd, Nat.reduceEqDiff, Nat.reduceLeDiff, true_and, bs_size, app_get, app_get0, app_set, app_set0, Option.map_some, Option.map_none, at_sl hx, w1, hcmp, h120]
                    refine sC.of en16 ((rbegins_calls S hS p1 (by omega) sg (by omega)).on _).here (by rfl) ?_
                    simp only [go_sem, Nat.reduceAdd, Nat.reduceEqDiff, Nat.reduceLeDiff, true_and, bs_size, app_get, app_get0, app_set, app_set0, Option.map_some, Option.map_none, at_sl hx, w1, hcmp, h120]
                    try simp [upd_at, h120, bs_size, app_get, app_get0, app_set, app_set0, Option.map_some, Option.map_none, at_sl hx, w1, hcmp]
                conv => enter [5]; simp only [List.set_cons_zero, List.set_cons_succ]
                refine AW.cond rfl (fun hc131 => ?_) (fun hc131 => ?_)
                · skip
                  have hsk2 : sgK S p1 (j + 1) = sg.length := by rw [hsk1, longer, if_pos hc131]
                  refine AW.lastl false [10] (by rfl) fun K hK => ?_ -- region 33
                  simp only [go_sem, Nat.reduceAdd, Nat.reduceEqDiff, Nat.reduceLeDiff, true_and, bs_size, app_get, app_get0, app_set, app_set0, Option.map_some, Option.map_none, at_sl hx, w1]
                  refine hK _ _ fun env' hw => ?_
                  simp only [setL_cons, setL_nil, List.set_cons_zero, List.set_cons_succ] at hw
                  refine hK44 _ _ (AW.weaken hw ?_); clear hw; try clear hK44 K44
                  refine AW.lastl false [13] (by rfl) fun K hK => ?_ -- region 31
                  simp only [go_sem, Nat.reduceAdd, Nat.reduceEqDiff, Nat.reduceLeDiff, true_and, bs_size, app_get, app_get0, app_set, app_set0, Option.map_some, Option.map_none]
                  refine hK _ _ fun env' hw => ?_
                  simp only [setL_cons, setL_nil, List.set_cons_zero, List.set_cons_succ] at hw
                  refine ⟨j + 1, by omega, by omega, ?_, rfl⟩
                  refine hw.trans ?_
                  simp [Wk, wrapN (show -1000000000 ≤ ((j : Nat) : Int) + 1 by omega) (by omega), hsk2]
                · skip
                  have hsk2 : sgK S p1 (j + 1) = sgK S p1 j := by rw [hsk1, longer, if_neg (ne_true_of_eq_false hc131)]
                  refine AW.skip ?_
                  refine hK44 _ _ ?_; try clear hK44 K44
                  refine AW.lastl false [13] (by rfl) fun K hK => ?_ -- region 31
                  simp only [go_sem, Nat.reduceAdd, Nat.reduceEqDiff, Nat.reduceLeDiff, true_and, bs_size, app_get, app_get0, app_set, app_set0, Option.map_some, Option.map_none]
                  refine hK _ _ fun env' hw => ?_
                  simp only [setL_cons, setL_nil, List.set_cons_zero, List.set_cons_succ] at hw
                  refine ⟨j + 1, by omega, by omega, ?_, rfl⟩
                  refine hw.trans ?_
                  simp [Wk, wrapN (show -1000000000 ≤ ((j : Nat) : Int) + 1 by omega) (by omega), hsk2]
              · skip
                have hj1 : j = 16 := by have h := hc111; simp at h; omega
                have hsgj : sgK S p1 j = sign (S.drop p1) := by rw [hj1]; exact sgK_all S p1
                have hN : p1 + sgK S p1 j ≤ S.length := by have := sgK_le S p1 j; rw [List.length_drop] at this; omega
                refine AW.exit ?_
                refine hK40 _ _ ?_; try clear hK40 K40
                refine AW.regl false [141] (by rfl) fun K46 hK46 => ?_ -- region 34
                simp only [go_sem, Nat.reduceAdd, Nat.reduceEqDiff, Nat.reduceLeDiff, true_and, bs_size, app_get, app_get0, app_set, app_set0, Option.map_some, Option.map_none]
                refine hK46 _ _ ?_; try clear hK46 K46
                conv => enter [5]; simp only [setL_cons, setL_nil, List.set_cons_zero, List.set_cons_succ]
                refine AW.cond rfl (fun hc141 => ?_) (fun hc141 => ?_)
                · skip
                  have hs0 : sign (S.drop p1) = 0 := by have h := hc141; simp at h; omega
                  have ht : tk (S.drop p1) = (4, 0, 0, 2) := by rw [hks, if_pos hs0]
                  have hM : lexM S = ([], p1, 2) := by
                    have h := lex_err (T := T) (f := f) (hp1 ▸ hgo) (hp1 ▸ hnl) (by rw [← hp1, ht]; exact show ¬ (2 : Int) = 0 by decide)
                    rw [hfin, ← hp1, ht] at h
                    exact h
                  refine AW.regl false [2, 3, 4] (by rfl) fun K47 hK47 => ?_ -- region 35
                  simp only [go_sem, Nat.reduceAdd, Nat.reduceEqDiff, Nat.reduceLeDiff, true_and, bs_size, app_get, app_get0, app_set, app_set0, Option.map_some, Option.map_none]
                  refine hK47 _ _ ?_; try clear hK47 K47
                  conv => enter [5]; simp only [setL_cons, setL_nil, List.set_cons_zero, List.set_cons_succ]
                  refine AW.ret ⟨.inr rfl, _, rfl, by simp, ?_⟩ -- return 5
                  rw [rlexV_err hM]
                  exact .keep rfl
                · skip
                  have hs0 : ¬ sign (S.drop p1) = 0 := by have h := hc141; simp at h; omega
                  have ht : tk (S.drop p1) = (4, sgK S p1 j, 0, 0) := by rw [hks, if_neg hs0, hsgj]
                  have hap := fun σ o => ap_rtok (S := S) (T := T) (by omega) ⟨4, p1, sgK S p1 j, 0⟩ σ o (a := .agg [i64 4, str (bs ((S.drop p1).take (sgK S p1 j))), i64 (0), i64 ((p1 : Nat) : Int)]) rfl
                  refine AW.skip ?_
                  refine hK14 _ _ ?_; try clear hK14 K14
                  refine AW.regl false [] (by rfl) fun K48 hK48 => ?_ -- region 36
                  simp only [go_sem, Nat.reduceAdd, Nat.reduceEqDiff, Nat.reduceLeDiff, true_and, bs_size, app_get, app_get0, app_set, app_set0, Option.map_some, Option.map_none, sls_lh S .i64 .i64 (Nat.le_add_right _ _) hN, Nat.add_sub_cancel_left]
                  refine hK48 _ _ ?_; try clear hK48 K48
                  conv => enter [5]; simp only [setL_cons, setL_nil, List.set_cons_zero, List.set_cons_succ, upd_none, upd_at]
                  refine AW.regl false [5] (by rfl) fun K49 hK49 => ?_ -- region 37
                  simp only [go_sem, Nat.reduceAdd, Nat.reduceEqDiff, Nat.reduceLeDiff, true_and, bs_size, app_get, app_get0, app_set, app_set0, Option.map_some, Option.map_none, row1_28, hap]
                  refine hK49 _ _ ?_; try clear hK49 K49
                  conv => enter [5]; simp only [setL_cons, setL_nil, List.set_cons_zero, List.set_cons_succ]
                  refine AW.lastl false [6] (by rfl) fun K hK => ?_ -- region 38
                  simp only [go_sem, Nat.reduceAdd, Nat.reduceEqDiff, Nat.reduceLeDiff, true_and, bs_size, app_get, app_get0, app_set, app_set0, Option.map_some, Option.map_none]
                  refine hK _ _ fun env' hw => ?_
                  simp only [setL_cons, setL_nil, List.set_cons_zero, List.set_cons_succ] at hw
                  have hn1 := tk_le (S.drop p1)
                  have hn2 := tk_pos (r := S.drop p1) (by rw [ht])
                  rw [ht, List.length_drop] at hn1
                  rw [ht] at hn2
                  simp only at hn1 hn2
                  have hlx := lex_tok (T := T) (f := f) (hp1 ▸ hgo) (hp1 ▸ hnl) (by rw [← hp1, ht])
                  rw [← hp1, ht, hfin] at hlx
                  refine ⟨(p1 + (tk (S.drop p1)).2.1, T ++ [Tk.mk (tk (S.drop p1)).1 p1 (tk (S.drop p1)).2.1 (tk (S.drop p1)).2.2.1]), ?_, ⟨?_, ?_, f, ?_, ?_⟩, ?_, ?_⟩ <;> (try simp only [ht])
                  · omega
                  · omega
                  · simp only [List.length_append, List.length_cons, List.length_nil]; omega
                  · omega
                  · exact hlx.symm
                  · refine hw.trans ?_
                    simp [Wk]
                  · simp [List.take_append, List.take_of_length_le]
end Lx
end Go.Proofs.Tryd
/-! Lexing: function 8. -/
namespace Go.Proofs.Tryd
set_option linter.unusedSimpArgs false
set_option linter.unusedVariables false
open Go Go.Proofs.Ev
namespace Lx
variable {Γ : List (Nat × List AV)} {w : AV} {mx : Int} {te : TypeId}
set_option maxRecDepth 100000 in
theorem awake_calls (hΓ : A.Words (GL w mx te)) : APure prog (GL w mx te) 8 [] (.val (.bool true)) := by
  refine APure.of func8 rfl fun σ => ?_
  simp only [ntmps8, List.length_cons, List.length_nil, Nat.reduceAdd, Nat.reduceSub, List.replicate_succ, List.replicate_zero, List.cons_append, List.nil_append]
  refine AW.regl false [0] (by rfl) fun K1 hK1 => ?_ -- region 0
  simp only [go_sem, Nat.reduceAdd, Nat.reduceEqDiff, Nat.reduceLeDiff, true_and, ls_len, app_get, app_get0]
  refine hK1 _ _ ?_; try clear hK1 K1
  conv => enter [5]; simp only [setL_cons, setL_nil, List.set_cons_zero, List.set_cons_succ]
  refine AW.regl false [1, 3] (by rfl) fun K2 hK2 => ?_ -- region 1
  simp only [go_sem, Nat.reduceAdd, Nat.reduceEqDiff, Nat.reduceLeDiff, true_and, ls_len, app_get, app_get0, ex1V, aExtract]
  refine sC.of en5 ((ex1_calls hΓ).on _).here (by rfl) ?_
  simp only [go_sem, Nat.reduceAdd, Nat.reduceEqDiff, Nat.reduceLeDiff, true_and, ls_len, app_get, app_get0, ex1V, aExtract]
  refine hK2 _ _ ?_; try clear hK2 K2
  conv => enter [5]; simp only [setL_cons, setL_nil, List.set_cons_zero, List.set_cons_succ]
  refine AW.regl false [4, 6] (by rfl) fun K3 hK3 => ?_ -- region 2
  simp only [go_sem, Nat.reduceAdd, Nat.reduceEqDiff, Nat.reduceLeDiff, true_and, ls_len, app_get, app_get0, ex2V, aExtract]
  refine sC.of en5 ((ex2_calls hΓ).on _).here (by rfl) ?_
  simp only [go_sem, Nat.reduceAdd, Nat.reduceEqDiff, Nat.reduceLeDiff, true_and, ls_len, app_get, app_get0, ex2V, aExtract]
  refine hK3 _ _ ?_; try clear hK3 K3
  conv => enter [5]; simp only [setL_cons, setL_nil, List.set_cons_zero, List.set_cons_succ]
  refine AW.regtf false 0 (.val (.bool (true))) (by rfl) ?_ ?_ -- region 3
  · skip
    simp only [go_sem, Nat.reduceAdd, Nat.reduceEqDiff, Nat.reduceLeDiff, true_and, ls_len, app_get, app_get0, eq24, at51, at53, eqS45, beq_self_eq_true, if_true, decide_true, Bool.and_true, List.length_cons, List.length_nil, Nat.zero_add, n5, n2, n1, n0]
    try simp [upd_at, ls_len, app_get, app_get0, eq24, at51, at53, eqS45, beq_self_eq_true, if_true, decide_true, Bool.and_true, List.length_cons, List.length_nil, Nat.zero_add, n5, n2, n1, n0]
  conv => enter [5]; simp only [List.set_cons_zero, List.set_cons_succ]
  refine AW.ret ⟨.inr rfl, _, rfl, by simp, ?_⟩ -- return 1
  exact .keep rfl
end Lx
end Go.Proofs.Tryd
