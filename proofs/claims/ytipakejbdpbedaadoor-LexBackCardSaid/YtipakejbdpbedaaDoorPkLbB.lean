import Derived.Test.YtipakejbdpbedaaDoorPkLbA
/-! Lexing: function 10. -/
namespace Go.Proofs.Tryd
set_option linter.unusedSimpArgs false
set_option linter.unusedVariables false
open Go Go.Proofs.Ev
namespace Lx
variable {Γ : List (Nat × List AV)} {w : AV} {mx : Int} {te : TypeId}
set_option maxRecDepth 100000 in
theorem next_calls (hΓ : A.Words (GL w mx te)) {σ : Sto} {o : Nat} (ho : o < σ.length) {S : List UInt8} (hS : S.length ≤ 20000) {out : AV} (hbo : out.bel σ.length = true) (p : Nat) (hp : p < S.length) : ACalls prog (GL w mx te) 10 [.ref o 0] (ls σ o (LX S p out)) (fun v σ' => ∃ u e q, σ' = ls σ o (LX S q out) ∧ v = .tup [u, i64 e] ∧ NextF S p u e q) := by
  refine ACalls.ofT func10 rfl ?_
  simp only [ntmps10, List.length_cons, List.length_nil, Nat.reduceAdd, Nat.reduceSub, List.replicate_succ, List.replicate_zero, List.cons_append, List.nil_append]
  have h0 := fun c => ls_get ho c
  have h1 := fun c l => ls_getl ho c l
  have s0 := fun c c' => ls_set σ o c c'
  have s1 := fun c c' l => ls_setl ho c c' l
  have hpl := place_le hS
  obtain ⟨c, r', hr⟩ : ∃ c r', S.drop p = c :: r' := ⟨_, _, List.drop_eq_getElem_cons hp⟩
  have hcr : (S.drop p)[0]? = some c := by rw [hr]; rfl
  have hrn := run_le nameC (S.drop p)
  rw [List.length_drop] at hrn
  refine AW.regl false [2, 3] (by rfl) fun K1 hK1 => ?_ -- region 0
  simp only [go_sem, Nat.reduceAdd, Nat.reduceEqDiff, Nat.reduceLeDiff, true_and, h0, h1, s0, s1, ls_geta, ls_geta0, ls_seta, ls_seta0, bs_size, Option.map_some, Option.map_none, ls_len]
  refine hK1 _ _ ?_; try clear hK1 K1
  conv => enter [5]; simp only [setL_cons, setL_nil, List.set_cons_zero, List.set_cons_succ]
  refine AW.seq_k fun K2 hK2 => ?_
  refine AW.regl false [13] (by rfl) fun K3 hK3 => ?_ -- region 1
  simp only [go_sem, Nat.reduceAdd, Nat.reduceEqDiff, Nat.reduceLeDiff, true_and, h0, h1, s0, s1, ls_geta, ls_geta0, ls_seta, ls_seta0, bs_size, Option.map_some, Option.map_none, ls_len, idx0 hcr]
  refine sC.of en23 ((lletter_calls c).on _).here (by rfl) ?_
  simp only [go_sem, Nat.reduceAdd, Nat.reduceEqDiff, Nat.reduceLeDiff, true_and, h0, h1, s0, s1, ls_geta, ls_geta0, ls_seta, ls_seta0, bs_size, Option.map_some, Option.map_none, ls_len, idx0 hcr]
  refine hK3 _ _ ?_; try clear hK3 K3
  conv => enter [5]; simp only [setL_cons, setL_nil, List.set_cons_zero, List.set_cons_succ]
  refine AW.cond rfl (fun hc13 => ?_) (fun hc13 => ?_)
  · skip
    have hL : A.letter c = true := hc13
    refine AW.regl false [3] (by rfl) fun K4 hK4 => ?_ -- region 2
    simp only [go_sem, Nat.reduceAdd, Nat.reduceEqDiff, Nat.reduceLeDiff, true_and, h0, h1, s0, s1, ls_geta, ls_geta0, ls_seta, ls_seta0, bs_size, Option.map_some, Option.map_none, ls_len, aExtract]
    refine sC.of en20 (((row_calls ho hS hbo p 25 en25 _ namec_calls).more _)).here (by rfl) ?_
    simp only [go_sem, Nat.reduceAdd, Nat.reduceEqDiff, Nat.reduceLeDiff, true_and, h0, h1, s0, s1, ls_geta, ls_geta0, ls_seta, ls_seta0, bs_size, Option.map_some, Option.map_none, ls_len, aExtract]
    refine sC.ofR en24 (name_at hΓ ho hS hbo p _ (by omega) _) (fun v' σ' hR => ?_)
    obtain ⟨k, e, q, rfl, rfl, hf⟩ := hR
    simp only [go_sem, Nat.reduceAdd, Nat.reduceEqDiff, Nat.reduceLeDiff, true_and, h0, h1, s0, s1, ls_geta, ls_geta0, ls_seta, ls_seta0, bs_size, Option.map_some, Option.map_none, ls_len, aExtract]
    refine hK4 _ _ ?_; try clear hK4 K4
    conv => enter [5]; simp only [setL_cons, setL_nil, List.set_cons_zero, List.set_cons_succ]
    exact AW.ret ⟨.inr rfl, _, ret_ct (v := tokA S k p (run nameC (S.drop p)) 0) rfl (by simp only [go_sem, ls_geta0, List.append_assoc, List.cons_append, List.nil_append] <;> rfl) rfl, ls σ o (LX S q out), _, rfl, by simp only [ls_len], fun j a h => ls_keep (lx_bel (by first | exact hbo | (rw [ls_len]; exact hbo))) j a h, rfl, ⟨_, _, _, rfl, rfl, next_name hr hL hf⟩⟩
  · skip
    have hL : ¬ A.letter c = true := ne_true_of_eq_false hc13
    refine AW.skip ?_
    refine hK2 _ _ ?_; try clear hK2 K2
    refine AW.seq_k fun K5 hK5 => ?_
    refine AW.regl false [4] (by rfl) fun K6 hK6 => ?_ -- region 3
    simp only [go_sem, Nat.reduceAdd, Nat.reduceEqDiff, Nat.reduceLeDiff, true_and, h0, h1, s0, s1, ls_geta, ls_geta0, ls_seta, ls_seta0, bs_size, Option.map_some, Option.map_none, ls_len]
    refine sC.of en20 (((row_calls ho hS hbo p 26 en26 _ ldigit_calls).more _)).here (by rfl) ?_
    simp only [go_sem, Nat.reduceAdd, Nat.reduceEqDiff, Nat.reduceLeDiff, true_and, h0, h1, s0, s1, ls_geta, ls_geta0, ls_seta, ls_seta0, bs_size, Option.map_some, Option.map_none, ls_len]
    refine hK6 _ _ ?_; try clear hK6 K6
    conv => enter [5]; simp only [setL_cons, setL_nil, List.set_cons_zero, List.set_cons_succ]
    refine AW.regl false [23] (by rfl) fun K7 hK7 => ?_ -- region 4
    simp only [go_sem, Nat.reduceAdd, Nat.reduceEqDiff, Nat.reduceLeDiff, true_and, h0, h1, s0, s1, ls_geta, ls_geta0, ls_seta, ls_seta0, bs_size, Option.map_some, Option.map_none, ls_len]
    refine hK7 _ _ ?_; try clear hK7 K7
    conv => enter [5]; simp only [setL_cons, setL_nil, List.set_cons_zero, List.set_cons_succ]
    refine AW.cond rfl (fun hc23 => ?_) (fun hc23 => ?_)
    · skip
      have hD : A.digit c = true := by
        have h := hc23
        simp at h
        exact digit_run (r := r').2 (by rw [← hr]; omega)
      refine AW.regl false [3] (by rfl) fun K8 hK8 => ?_ -- region 5
      simp only [go_sem, Nat.reduceAdd, Nat.reduceEqDiff, Nat.reduceLeDiff, true_and, h0, h1, s0, s1, ls_geta, ls_geta0, ls_seta, ls_seta0, bs_size, Option.map_some, Option.map_none, ls_len, aExtract]
      refine sC.ofR en27 (number_next ho hS hbo p hr hL hD _) (fun v' σ' hR => ?_)
      obtain ⟨k, s, x, a, b, e, q, rfl, rfl, hf⟩ := hR
      simp only [go_sem, Nat.reduceAdd, Nat.reduceEqDiff, Nat.reduceLeDiff, true_and, h0, h1, s0, s1, ls_geta, ls_geta0, ls_seta, ls_seta0, bs_size, Option.map_some, Option.map_none, ls_len, aExtract]
      refine hK8 _ _ ?_; try clear hK8 K8
      conv => enter [5]; simp only [setL_cons, setL_nil, List.set_cons_zero, List.set_cons_succ]
      exact AW.ret ⟨.inr rfl, _, ret_ct (v := .agg [i64 k, str s, i64 x, i64 a, i64 b]) rfl (by simp only [go_sem, ls_geta0, List.append_assoc, List.cons_append, List.nil_append] <;> rfl) rfl, ls σ o (LX S q out), _, rfl, by simp only [ls_len], fun j a h => ls_keep (lx_bel (by first | exact hbo | (rw [ls_len]; exact hbo))) j a h, rfl, ⟨_, _, _, rfl, rfl, hf⟩⟩
    · skip
      have hD : ¬ A.digit c = true := fun hD => by
        have h1 := (digit_run (r := r')).1 hD
        rw [← hr] at h1
        have h := hc23
        simp at h
        omega
      refine AW.skip ?_
      refine hK5 _ _ ?_; try clear hK5 K5
      refine AW.regl false [5] (by rfl) fun K9 hK9 => ?_ -- region 6
      simp only [go_sem, Nat.reduceAdd, Nat.reduceEqDiff, Nat.reduceLeDiff, true_and, h0, h1, s0, s1, ls_geta, ls_geta0, ls_seta, ls_seta0, bs_size, Option.map_some, Option.map_none, ls_len]
      refine hK9 _ _ ?_; try clear hK9 K9
      conv => enter [5]; simp only [setL_cons, setL_nil, List.set_cons_zero, List.set_cons_succ, upd_none, upd_at]
      refine AW.seq_k fun K10 hK10 => ?_
      refine AW.regl false [33, 34, 35] (by rfl) fun K11 hK11 => ?_ -- region 7
      simp only [go_sem, Nat.reduceAdd, Nat.reduceEqDiff, Nat.reduceLeDiff, true_and, h0, h1, s0, s1, ls_geta, ls_geta0, ls_seta, ls_seta0, bs_size, Option.map_some, Option.map_none, ls_len, opndF_global, opnd_g0, List.length_map]
      refine hK11 _ _ ?_; try clear hK11 K11
      conv => enter [5]; simp only [setL_cons, setL_nil, List.set_cons_zero, List.set_cons_succ]
      refine AW.block ?_
      refine AW.loop_wk (α := Nat) (fun j => [(.ref o 0), .any, (.ref σ.length 0), .any, .any, (.ref (σ.length + 1) 0), .any, .any, .any, .any, .any, .any, .any, .any, .any, .any, .any, .any, .any, .any, .any, .any, .any, .any, .any, .any, .any, .any, .any, .any, .any, .any, .any, (.sl 1 (signsB.map str)), (.val (.int .i64 ((signsB.length : Nat) : Int))), (.val (.int .i64 ((j : Nat) : Int))), .any, .any, .any, .any, .any, .any, .any, .any, .any, .any, .any, .any, .any, .any, .any, .any, .any]) (fun j => ls σ o (LX S p out) ++ [.cells [.val (.int .i64 0), .val (.string ⟨#[]⟩), .val (.int .i64 0), .val (.int .i64 0), .val (.int .i64 0)], .cells [.val (.int .i64 ((place S p).1)), .val (.int .i64 ((place S p).2))]]) (fun j => 16 - j) (fun j => j ≤ 16 ∧ ∀ e ∈ signsC.take j, e.isPrefixOf (S.drop p) = false) 0 ?_ ?_
      · exact ⟨⟨Nat.zero_le _, fun e he => by cases he⟩, by simp [Wk], rfl⟩
      · rintro j ⟨hj, hno⟩
        refine AW.regl false [36] (by rfl) fun K12 hK12 => ?_ -- region 8
        simp only [go_sem, Nat.reduceAdd, Nat.reduceEqDiff, Nat.reduceLeDiff, true_and, h0, h1, s0, s1, ls_geta, ls_geta0, ls_seta, ls_seta0, bs_size, Option.map_some, Option.map_none, ls_len]
        refine hK12 _ _ ?_; try clear hK12 K12
        conv => enter [5]; simp only [setL_cons, setL_nil, List.set_cons_zero, List.set_cons_succ]
        refine AW.seq_k fun K13 hK13 => ?_
        refine AW.cond rfl (fun hc36 => ?_) (fun hc36 => ?_)
        · skip
          have hj1 : j < signsC.length := by have h := hc36; simp at h; rw [signsB_len] at h; show j < 16; omega
          obtain ⟨sg, hsg⟩ : ∃ z, signsC[j]? = some z := ⟨_, List.getElem?_eq_getElem hj1⟩
          have hx := signsB_at hsg
          have hsm := sign_pos sg (List.mem_of_getElem? hsg)
          refine AW.skip ?_
          refine hK13 _ _ ?_; try clear hK13 K13
          refine AW.seq_k fun K14 hK14 => ?_
          refine AW.block ?_
          refine AW.regl false [7] (by rfl) fun K15 hK15 => ?_ -- region 9
          simp only [go_sem, Nat.reduceAdd, Nat.reduceEqDiff, Nat.reduceLeDiff, true_and, h0, h1, s0, s1, ls_geta, ls_geta0, ls_seta, ls_seta0, bs_size, Option.map_some, Option.map_none, ls_len, at_sl hx]
          refine hK15 _ _ ?_; try clear hK15 K15
          conv => enter [5]; simp only [setL_cons, setL_nil, List.set_cons_zero, List.set_cons_succ]
          refine AW.regl false [44] (by rfl) fun K16 hK16 => ?_ -- region 10
          simp only [go_sem, Nat.reduceAdd, Nat.reduceEqDiff, Nat.reduceLeDiff, true_and, h0, h1, s0, s1, ls_geta, ls_geta0, ls_seta, ls_seta0, bs_size, Option.map_some, Option.map_none, ls_len, bs_list]
          refine sC.of en19 ((pre_calls _ _).on _).here (by rfl) ?_
          simp only [go_sem, Nat.reduceAdd, Nat.reduceEqDiff, Nat.reduceLeDiff, true_and, h0, h1, s0, s1, ls_geta, ls_geta0, ls_seta, ls_seta0, bs_size, Option.map_some, Option.map_none, ls_len, bs_list]
          refine hK16 _ _ ?_; try clear hK16 K16
          conv => enter [5]; simp only [setL_cons, setL_nil, List.set_cons_zero, List.set_cons_succ]
          refine AW.cond rfl (fun hc44 => ?_) (fun hc44 => ?_)
          · skip
            have hpf : sg.isPrefixOf (S.drop p) = true := hc44
            have hsl : p + sg.length ≤ S.length := by
              have := List.IsPrefix.length_le (List.isPrefixOf_iff_prefix.1 hpf)
              rw [List.length_drop] at this
              omega
            refine AW.regch mixed [ls σ o (LX S p out) ++ [.cells [.val (.int .i64 0), .val (.string ⟨#[]⟩), .val (.int .i64 0), .val (.int .i64 0), .val (.int .i64 0)], .cells [.val (.int .i64 ((place S p).1)), .val (.int .i64 ((place S p).2))]], ls σ o (LX S (p + sg.length) out) ++ [.cells [i64 0, str ⟨#[]⟩, i64 0, i64 0, i64 0], .cells [i64 (place S p).1, i64 (place S p).2]], ls σ o (LX S (p + sg.length) out) ++ [.cells [i64 4, str (bs ((S.drop p).take sg.length)), i64 0, i64 (place S p).1, i64 (place S p).2], .cells [i64 (place S p).1, i64 (place S p).2]]] [(0, 0, true), (0, 0, true), (0, 0, true), (0, 0, false), (0, 1, true), (1, 1, true), (0, 0, false), (2, 2, true)] [3] (by kernel_rfl) (by rfl) (by kernel_rfl) (by rfl) fun K17 hK17 => ?_ -- region 11
            simp only [go_sem, Nat.reduceAdd, Nat.reduceEqDiff, Nat.reduceLeDiff, true_and, h0, h1, s0, s1, ls_geta, ls_geta0, ls_seta, ls_seta0, bs_size, Option.map_some, Option.map_none, ls_len, List.append_assoc, List.cons_append, List.nil_append]
            refine xC.of en18 (take_at ho hS hbo p sg.length hsl _) (by rfl) ?_
            simp only [go_sem, Nat.reduceAdd, Nat.reduceEqDiff, Nat.reduceLeDiff, true_and, h0, h1, s0, s1, ls_geta, ls_geta0, ls_seta, ls_seta0, bs_size, Option.map_some, Option.map_none, ls_len, List.append_assoc, List.cons_append, List.nil_append]
            refine xE.of (by first | rfl | (simp; done) | (simp; repeat' constructor)) ?_
            simp only [go_sem, Nat.reduceAdd, Nat.reduceEqDiff, Nat.reduceLeDiff, true_and, h0, h1, s0, s1, ls_geta, ls_geta0, ls_seta, ls_seta0, bs_size, Option.map_some, Option.map_none, ls_len, List.append_assoc, List.cons_append, List.nil_append]
            refine hK17 _ ?_; try clear hK17 K17
            conv => enter [5]; simp only [setL_cons, setL_nil, List.set_cons_zero, List.set_cons_succ]
            show AW _ _ _ _ _ (ls σ o (LX S (p + sg.length) out) ++ [.cells [i64 4, str (bs ((S.drop p).take sg.length)), i64 0, i64 (place S p).1, i64 (place S p).2], .cells [i64 (place S p).1, i64 (place S p).2]]) _
            exact AW.ret ⟨.inr rfl, _, ret_ct (v := tokA S 4 p sg.length 0) rfl (by simp only [go_sem, ls_geta0, List.append_assoc, List.cons_append, List.nil_append] <;> rfl) rfl, ls σ o (LX S (p + sg.length) out), _, rfl, by simp only [ls_len], fun j a h => ls_keep (lx_bel (by first | exact hbo | (rw [ls_len]; exact hbo))) j a h, rfl, ⟨_, _, _, rfl, rfl, next_sign hr hL hD hsg hno hpf⟩⟩
          · skip
            have hpf : sg.isPrefixOf (S.drop p) = false := hc44
            refine AW.skip ?_
            refine hK14 _ _ ?_; try clear hK14 K14
            refine AW.lastl false [35] (by rfl) fun K hK => ?_ -- region 12
            simp only [go_sem, Nat.reduceAdd, Nat.reduceEqDiff, Nat.reduceLeDiff, true_and, h0, h1, s0, s1, ls_geta, ls_geta0, ls_seta, ls_seta0, bs_size, Option.map_some, Option.map_none, ls_len]
            refine hK _ _ fun env' hw => ?_
            simp only [setL_cons, setL_nil, List.set_cons_zero, List.set_cons_succ] at hw
            refine ⟨j + 1, by have : signsC.length = 16 := rfl; omega, ⟨by have : signsC.length = 16 := rfl; omega, fun e he => ?_⟩, ?_, rfl⟩
            · rw [List.take_add_one, hsg, List.mem_append] at he
              rcases he with he | he
              · exact hno e he
              · simp at he
                rw [he]
                exact hpf
            · refine hw.trans ?_
              simp [Wk, wrapN (show -1000000000 ≤ ((j : Nat) : Int) + 1 by omega) (by omega)]
        · skip
          have hall : ∀ e ∈ signsC, e.isPrefixOf (S.drop p) = false := by
            have h := hc36
            simp at h
            rw [signsB_len] at h
            rw [List.take_of_length_le (show signsC.length ≤ j by show 16 ≤ j; omega)] at hno
            exact hno
          refine AW.exit ?_
          refine hK10 _ _ ?_; try clear hK10 K10
          refine AW.regl false [3] (by rfl) fun K18 hK18 => ?_ -- region 13
          simp only [go_sem, Nat.reduceAdd, Nat.reduceEqDiff, Nat.reduceLeDiff, true_and, h0, h1, s0, s1, ls_geta, ls_geta0, ls_seta, ls_seta0, bs_size, Option.map_some, Option.map_none, ls_len]
          refine hK18 _ _ ?_; try clear hK18 K18
          conv => enter [5]; simp only [setL_cons, setL_nil, List.set_cons_zero, List.set_cons_succ]
          exact AW.ret ⟨.inr rfl, _, ret_ct (v := tok0) rfl (by simp only [go_sem, ls_geta0, List.append_assoc, List.cons_append, List.nil_append] <;> rfl) rfl, ls σ o (LX S p out), _, rfl, by simp only [ls_len], fun j a h => ls_keep (lx_bel (by first | exact hbo | (rw [ls_len]; exact hbo))) j a h, rfl, ⟨_, _, _, rfl, rfl, next_none hr hL hD hall⟩⟩
end Lx
end Go.Proofs.Tryd
/-! Lexing: what the walk through the lexer's loop needs. -/
namespace Go.Proofs.Tryd
set_option linter.unusedSimpArgs false
set_option linter.unusedVariables false
open Go Go.Proofs.Ev
namespace Lx
variable {Γ : List (Nat × List AV)} {w : AV} {mx : Int} {te : TypeId}
def tokT (S : List UInt8) (k : Tk) : AV := tokA S k.kind k.at_ k.n k.v
/-- What the program says of a text. -/
def lexV (S : List UInt8) : AV := .tup [rowAV 5 true ((lexM S).1.map (tokT S)), (if (lexM S).2.2 = 0 then .agg [i64 0, i64 0] else .agg [i64 (place S (lexM S).2.1).1, i64 (place S (lexM S).2.1).2]), i64 (lexM S).2.2]
theorem ls_mid (σ : Sto) (a : AO) (c : List AV) (l : Sto) : ls (σ ++ a :: .cells [] :: l) (σ.length + 1) c = σ ++ a :: .cells c :: l := by
  rw [ls, app_set]
  rfl
theorem between_in {σ : Sto} {a : AO} {l : Sto} {S : List UInt8} (hS : S.length ≤ 20000) {out : AV} (hbo : out.bel (σ.length + 2 + 1) = true) (hl : 1 ≤ l.length) (p : Nat) (hp : p ≤ S.length) : ACalls prog (GL w mx te) 9 [.ref (σ.length + 1) 0] (σ ++ a :: .cells (LX S p out) :: l) (fun v σ' => σ' = σ ++ a :: .cells (LX S (p + sk (S.drop p)) out) :: l ∧ v = .val (.bool (!gapO (S.drop (p + sk (S.drop p)))))) := by
  have := between_calls (w := w) (mx := mx) (te := te) (σ := σ ++ a :: .cells [] :: l) (o := σ.length + 1) (by simp) hS (out := out) (bel_up' hbo (by simp; omega)) p hp
  rwa [ls_mid, ls_mid] at this
theorem next_in (hΓ : A.Words (GL w mx te)) {σ : Sto} {a : AO} {l : Sto} {S : List UInt8} (hS : S.length ≤ 20000) {out : AV} (hbo : out.bel (σ.length + 2 + 1) = true) (hl : 1 ≤ l.length) (p : Nat) (hp : p < S.length) : ACalls prog (GL w mx te) 10 [.ref (σ.length + 1) 0] (σ ++ a :: .cells (LX S p out) :: l) (fun v σ' => ∃ k s x y z e q, σ' = σ ++ a :: .cells (LX S q out) :: l ∧ v = .tup [.agg [i64 k, str s, i64 x, i64 y, i64 z], i64 e] ∧ NextF S p (.agg [i64 k, str s, i64 x, i64 y, i64 z]) e q) := by
  have := next_calls (w := w) (mx := mx) (te := te) hΓ (σ := σ ++ a :: .cells [] :: l) (o := σ.length + 1) (by simp) hS (out := out) (bel_up' hbo (by simp; omega)) p hp
  simp only [ls_mid] at this
  refine this.mono ?_
  rintro v σ' ⟨u, e, q, rfl, rfl, h⟩
  rcases h with ⟨h1, h2, h3, rfl⟩ | ⟨h1, h2, h3, k, s, x, y, z, rfl⟩
  · exact ⟨_, _, _, _, _, _, _, rfl, rfl, .inl ⟨h1, h2, h3, rfl⟩⟩
  · exact ⟨_, _, _, _, _, _, _, rfl, rfl, .inr ⟨h1, h2, h3, _, _, _, _, _, rfl⟩⟩
theorem ret_tct {fn : Func} {t0 t u : Tmp} {T : TypeId} {σ : Sto} {env : Env} {v0 v v2 : AV} (h : fn.results.toList = [.tmp t0, .cell t T, .tmp u]) (h0 : env[t0]? = some v0) (hl : aLoad prog σ T (env.getD t .any) = some v) (hu : env[u]? = some v2) : aReturn prog fn σ env = some (.tup [v0, v, v2]) := by
  simp only [aReturn, h, aResults, aResult, h0, hl, hu]
theorem ap_tok {S : List UInt8} {T : List Tk} (hT : T.length ≤ 30000) (k : Tk) (σ : Sto) (o : Nat) {a : AV} (ha : tokT S k = a) : appAt σ true 5 48 (T.map (tokT S)) o [a] (some (.cap T.length 5)) = some (.slo true 5 ((T ++ [k]).map (tokT S)) o, σ.set o (.cap (T.length + 1) 5)) := by
  subst ha
  rw [appAt_one σ true 5 48 _ o T.length (tokT S k) (by simp) (fits_of (by rw [List.length_map]; omega) (by decide))]
  simp
/-! The model's steps. -/
theorem lex_gap {S : List UInt8} {T : List Tk} {f p : Nat} (h : gapO (S.drop (p + sk (S.drop p))) = true) : fin T (lexF (f + 1) S p) = ([], p + sk (S.drop p), 2) := by
  unfold lexF
  rw [if_pos h]
  rfl
theorem lex_end {S : List UInt8} {T : List Tk} {f p : Nat} (h : ¬ gapO (S.drop (p + sk (S.drop p))) = true) (h2 : S.length ≤ p + sk (S.drop p)) : fin T (lexF (f + 1) S p) = (T ++ [⟨0, p + sk (S.drop p), 0, 0⟩], 0, 0) := by
  unfold lexF
  rw [if_neg h, if_pos h2]
  rfl
theorem lex_err {S : List UInt8} {T : List Tk} {f p : Nat} (h : ¬ gapO (S.drop (p + sk (S.drop p))) = true) (h2 : ¬ S.length ≤ p + sk (S.drop p)) (h3 : ¬ (tk (S.drop (p + sk (S.drop p)))).2.2.2 = 0) : fin T (lexF (f + 1) S p) = ([], p + sk (S.drop p), (tk (S.drop (p + sk (S.drop p)))).2.2.2) := by
  unfold lexF
  rw [if_neg h, if_neg h2, if_neg h3]
  unfold fin
  rw [if_neg h3]
theorem lex_tok {S : List UInt8} {T : List Tk} {f p : Nat} (h : ¬ gapO (S.drop (p + sk (S.drop p))) = true) (h2 : ¬ S.length ≤ p + sk (S.drop p)) (h3 : (tk (S.drop (p + sk (S.drop p)))).2.2.2 = 0) :
    fin T (lexF (f + 1) S p) = fin (T ++ [⟨(tk (S.drop (p + sk (S.drop p)))).1, p + sk (S.drop p), (tk (S.drop (p + sk (S.drop p)))).2.1, (tk (S.drop (p + sk (S.drop p)))).2.2.1⟩]) (lexF f S (p + sk (S.drop p) + (tk (S.drop (p + sk (S.drop p)))).2.1)) := by
  conv => lhs; unfold lexF
  rw [if_neg h, if_neg h2, if_pos h3]
  unfold fin
  by_cases h4 : (lexF f S (p + sk (S.drop p) + (tk (S.drop (p + sk (S.drop p)))).2.1)).2.2 = 0
  · rw [if_pos h4, if_pos h4, if_pos rfl]
    simp
  · rw [if_neg h4, if_neg h4]
    rw [if_neg h4]
theorem sk_drop {S : List UInt8} {p : Nat} (hp : p ≤ S.length) : p + sk (S.drop p) ≤ S.length := by
  have := sk_le (S.drop p)
  rw [List.length_drop] at this
  omega
theorem lexV_err {S : List UInt8} {q : Nat} {e : Int} (h : lexM S = ([], q, e)) (he : ¬ e = 0) : lexV S = .tup [.nilsl, .agg [i64 (place S q).1, i64 (place S q).2], i64 e] := by
  unfold lexV
  rw [h]
  simp only [List.map_nil]
  rw [if_neg he]
  rfl
theorem lexV_ok {S : List UInt8} {T : List Tk} (h : lexM S = (T, 0, 0)) : lexV S = .tup [rowAV 5 true (T.map (tokT S)), .agg [i64 0, i64 0], i64 0] := by
  unfold lexV
  rw [h]
  rfl
theorem tok_inj {k k' : Int} {s s' : ByteArray} {x x' y y' z z' : Int} (h : AV.agg [i64 k, str s, i64 x, i64 y, i64 z] = AV.agg [i64 k', str s', i64 x', i64 y', i64 z']) : k = k' ∧ s = s' ∧ x = x' ∧ y = y' ∧ z = z' := by
  simpa using h
theorem dropn {S : List UInt8} {p : Nat} : decide (S.drop p = []) = decide (S.length ≤ p) := decide_eq_decide.2 List.drop_eq_nil_iff
theorem slo_bel (S : List UInt8) (T : List Tk) (σ : Sto) : AV.bel (σ.length + 2 + 1) (.slo true 5 (T.map (tokT S)) (σ.length + 2)) = true := by
  simp only [AV.bel, Bool.and_eq_true, decide_eq_true_eq]
  exact ⟨by omega, belL_map _ _ fun _ _ => rfl⟩
end Lx
end Go.Proofs.Tryd
/-! Lexing: function 5. -/
namespace Go.Proofs.Tryd
set_option linter.unusedSimpArgs false
set_option linter.unusedVariables false
open Go Go.Proofs.Ev
namespace Lx
variable {Γ : List (Nat × List AV)} {w : AV} {mx : Int} {te : TypeId}
set_option maxRecDepth 100000 in
set_option maxHeartbeats 1000000 in
theorem lex_calls (hΓ : A.Words (GL w mx te)) (S : List UInt8) (hS : S.length ≤ 20000) : APure prog (GL w mx te) 5 [str (bs S)] (lexV S) := by
  refine APure.of func5 rfl fun σ => ?_
  simp only [ntmps5, List.length_cons, List.length_nil, Nat.reduceAdd, Nat.reduceSub, List.replicate_succ, List.replicate_zero, List.cons_append, List.nil_append]
  have hpl := place_le hS
  refine AW.regl false [2, 3, 4] (by rfl) fun K1 hK1 => ?_ -- region 0
  simp only [go_sem, Nat.reduceAdd, Nat.reduceEqDiff, Nat.reduceLeDiff, true_and, app_get, app_get0, app_set, app_set0, Option.map_some, Option.map_none]
  refine hK1 _ _ ?_; try clear hK1 K1
  conv => enter [5]; simp only [setL_cons, setL_nil, List.set_cons_zero, List.set_cons_succ]
  refine AW.regl false [5] (by rfl) fun K2 hK2 => ?_ -- region 1
  simp only [go_sem, Nat.reduceAdd, Nat.reduceEqDiff, Nat.reduceLeDiff, true_and, app_get, app_get0, app_set, app_set0, Option.map_some, Option.map_none]
  refine hK2 _ _ ?_; try clear hK2 K2
  conv => enter [5]; simp only [setL_cons, setL_nil, List.set_cons_zero, List.set_cons_succ]
  refine AW.cap 5 ?_
  simp only [List.append_assoc, List.cons_append, List.nil_append]
  refine AW.own (σ.length + 1) 3 (σ.length + 2) ((app_get σ _ 1).trans rfl) rfl ((app_get σ _ 2).trans rfl) (by decide) ?_
  simp only [app_set, List.set_cons_zero, List.set_cons_succ]
  refine AW.block ?_
  refine AW.loop_dr (α := Nat × List Tk) (fun z => [.any, .any, .any, (.ref σ.length 0), .any, (.ref (σ.length + 1) 0), .any, .any, .any, .any, .any, .any, .any, .any, .any, .any, .any, .any, .any, .any, .any, .any, .any, .any, .any, .any, .any, .any, .any, .any, .any, .any, .any, .any, .any, .any, .any, .any, .any, .any, .any, .any, .any, .any, .any, .any, .any, .any, .any, .any, .any, .any, .any, .any, .any, .any, .any, .any]) (fun z => σ ++ [.cells [i64 0, i64 0], .cells (LX S z.1 (.slo true 5 ((z.2).map (tokT S)) (σ.length + 2))), .cap z.2.length 5]) (fun z => S.length - z.1) (fun z => z.1 ≤ S.length ∧ z.2.length ≤ z.1 ∧ ∃ f, S.length - z.1 < f ∧ fin z.2 (lexF f S z.1) = lexM S) (0, []) ?_ ?_ ?_
  · exact ⟨⟨Nat.zero_le _, Nat.le_refl _, S.length + 1, by simp, rfl⟩, by simp [Wk], rfl⟩
  · refine fun y _ => ⟨?_, bel_app σ fun a ha => ?_⟩
    · simp only [belL, AV.bel, Bool.and_true, Bool.true_and, Bool.and_eq_true, decide_eq_true_eq, List.length_append, List.length_cons, List.length_nil]
      omega
    · simp only [List.mem_cons, List.not_mem_nil, or_false] at ha
      rcases ha with rfl | rfl | rfl
      · rfl
      · exact lx_bel (bel_up' (slo_bel S y.2 σ) (by simp))
      · rfl
  · rintro ⟨p, T⟩ ⟨hpS, hTl, f, hf, hfin⟩
    simp only at hpS hTl hf hfin
    refine AW.block ?_
    refine AW.seq_k fun K3 hK3 => ?_
    obtain ⟨p1, hp1⟩ : ∃ z, z = p + sk (S.drop p) := ⟨_, rfl⟩
    have hp1l : p1 ≤ S.length := by rw [hp1]; exact sk_drop hpS
    have hbo := slo_bel S T σ
    obtain ⟨f, rfl⟩ : ∃ g, f = g + 1 := ⟨f - 1, by omega⟩
    have hbt := between_in (w := w) (mx := mx) (te := te) (σ := σ) (a := .cells [i64 0, i64 0]) (l := [.cap T.length 5]) hS hbo (by simp) p hpS
    have hnx := fun h => next_in (w := w) (mx := mx) (te := te) hΓ (σ := σ) (a := .cells [i64 0, i64 0]) (l := [.cap T.length 5]) hS hbo (by simp) p1 h
    rw [← hp1] at hbt
    refine AW.regl false [14] (by rfl) fun K4 hK4 => ?_ -- region 2
    simp only [go_sem, Nat.reduceAdd, Nat.reduceEqDiff, Nat.reduceLeDiff, true_and, app_get, app_get0, app_set, app_set0, Option.map_some, Option.map_none]
    refine sC.ofR en9 (hbt) (fun v' σ' hR => ?_)
    obtain ⟨rfl, rfl⟩ := hR
    simp only [go_sem, Nat.reduceAdd, Nat.reduceEqDiff, Nat.reduceLeDiff, true_and, app_get, app_get0, app_set, app_set0, Option.map_some, Option.map_none]
    refine hK4 _ _ ?_; try clear hK4 K4
    conv => enter [5]; simp only [setL_cons, setL_nil, List.set_cons_zero, List.set_cons_succ]
    refine AW.cond rfl (fun hc14 => ?_) (fun hc14 => ?_)
    · skip
      have hgo : gapO (S.drop p1) = true := by simpa using hc14
      have hM : lexM S = ([], p1, 2) := by rw [← hfin, hp1]; exact lex_gap (hp1 ▸ hgo)
      refine AW.regch mixed [σ ++ [.cells [i64 0, i64 0], .cells (LX S p1 (.slo true 5 ((T).map (tokT S)) (σ.length + 2))), .cap T.length 5], σ ++ [.cells [i64 (place S p1).1, i64 (place S p1).2], .cells (LX S p1 (.slo true 5 ((T).map (tokT S)) (σ.length + 2))), .cap T.length 5]] [(0, 0, true), (0, 0, true), (0, 0, true), (0, 0, true), (0, 0, true), (0, 0, false), (1, 1, true)] [2, 4] (by kernel_rfl) (by rfl) (by kernel_rfl) (by rfl) fun K5 hK5 => ?_ -- region 3
      simp only [go_sem, Nat.reduceAdd, Nat.reduceEqDiff, Nat.reduceLeDiff, true_and, app_get, app_get0, app_set, app_set0, Option.map_some, Option.map_none, List.append_assoc, List.cons_append, List.nil_append]
      refine xE.of (by first | rfl | (simp; done) | (simp; repeat' constructor)) ?_
      simp only [go_sem, Nat.reduceAdd, Nat.reduceEqDiff, Nat.reduceLeDiff, true_and, app_get, app_get0, app_set, app_set0, Option.map_some, Option.map_none, List.append_assoc, List.cons_append, List.nil_append]
      refine hK5 _ ?_; try clear hK5 K5
      conv => enter [5]; simp only [setL_cons, setL_nil, List.set_cons_zero, List.set_cons_succ]
      show AW _ _ _ _ _ (σ ++ [.cells [i64 (place S p1).1, i64 (place S p1).2], .cells (LX S p1 (.slo true 5 ((T).map (tokT S)) (σ.length + 2))), .cap T.length 5]) _
      exact AW.ret ⟨.inr rfl, _, ret_tct (v0 := .nilsl) (v := .agg [i64 (place S p1).1, i64 (place S p1).2]) (v2 := i64 2) rfl rfl (by simp only [go_sem, app_get, app_get0, List.append_assoc, List.cons_append, List.nil_append] <;> rfl) rfl, by simp, by rw [lexV_err hM (by decide)]; exact .keep rfl⟩
    · skip
      have hgo : ¬ gapO (S.drop p1) = true := by simpa using hc14
      refine AW.skip ?_
      refine hK3 _ _ ?_; try clear hK3 K3
      refine AW.seq_k fun K6 hK6 => ?_
      refine AW.regl false [23] (by rfl) fun K7 hK7 => ?_ -- region 4
      simp only [go_sem, Nat.reduceAdd, Nat.reduceEqDiff, Nat.reduceLeDiff, true_and, app_get, app_get0, app_set, app_set0, Option.map_some, Option.map_none, eqS0, dropn]
      refine hK7 _ _ ?_; try clear hK7 K7
      conv => enter [5]; simp only [setL_cons, setL_nil, List.set_cons_zero, List.set_cons_succ]
      refine AW.cond rfl (fun hc23 => ?_) (fun hc23 => ?_)
      · skip
        have hnl : S.length ≤ p1 := by simpa using hc23
        have hM : lexM S = ((T ++ [Tk.mk 0 p1 0 0]), 0, 0) := by rw [← hfin, hp1]; exact lex_end (hp1 ▸ hgo) (hp1 ▸ hnl)
        have hap0 := fun σ o => ap_tok (S := S) (T := T) (by omega) ⟨0, p1, 0, 0⟩ σ o (a := .agg [i64 0, str ⟨#[]⟩, i64 0, i64 (place S p1).1, i64 (place S p1).2]) rfl
        refine AW.regch mixed [σ ++ [.cells [i64 0, i64 0], .cells (LX S p1 (.slo true 5 ((T).map (tokT S)) (σ.length + 2))), .cap T.length 5], σ ++ [.cells [i64 0, i64 0], .cells (LX S p1 (.slo true 5 ((T).map (tokT S)) (σ.length + 2))), .cap (T.length + 1) 5], σ ++ [.cells [i64 0, i64 0], .cells (LX S p1 (.slo true 5 ((T).map (tokT S)) (σ.length + 2))), .cap (T.length + 1) 5]] [(0, 0, true), (0, 0, true), (0, 0, true), (0, 0, true), (0, 0, true), (0, 0, true), (0, 0, true), (0, 0, true), (0, 0, true), (0, 0, true), (0, 0, false), (0, 1, true), (1, 1, true), (0, 0, false), (2, 2, true)] [2, 4] (by kernel_rfl) (by rfl) (by kernel_rfl) (by rfl) fun K8 hK8 => ?_ -- region 5
        simp only [go_sem, Nat.reduceAdd, Nat.reduceEqDiff, Nat.reduceLeDiff, true_and, app_get, app_get0, app_set, app_set0, Option.map_some, Option.map_none, row1_22, hap0, List.append_assoc, List.cons_append, List.nil_append]
        refine xE.of (by first | rfl | (simp; done) | (simp; repeat' constructor)) ?_
        simp only [go_sem, Nat.reduceAdd, Nat.reduceEqDiff, Nat.reduceLeDiff, true_and, app_get, app_get0, app_set, app_set0, Option.map_some, Option.map_none, row1_22, hap0, List.append_assoc, List.cons_append, List.nil_append]
        refine xE.of (by first | rfl | (simp; done) | (simp; repeat' constructor)) ?_
        simp only [go_sem, Nat.reduceAdd, Nat.reduceEqDiff, Nat.reduceLeDiff, true_and, app_get, app_get0, app_set, app_set0, Option.map_some, Option.map_none, row1_22, hap0, List.append_assoc, List.cons_append, List.nil_append]
        refine hK8 _ ?_; try clear hK8 K8
        conv => enter [5]; simp only [setL_cons, setL_nil, List.set_cons_zero, List.set_cons_succ]
        show AW _ _ _ _ _ (σ ++ [.cells [i64 0, i64 0], .cells (LX S p1 (.slo true 5 ((T).map (tokT S)) (σ.length + 2))), .cap (T.length + 1) 5]) _
        exact AW.ret ⟨.inr rfl, _, ret_tct (v0 := .slo true 5 (((T ++ [Tk.mk 0 p1 0 0])).map (tokT S)) (σ.length + 2)) (v := .agg [i64 0, i64 0]) (v2 := i64 0) rfl rfl (by simp only [go_sem, app_get, app_get0, List.append_assoc, List.cons_append, List.nil_append] <;> rfl) rfl, by simp, by rw [lexV_ok hM]; exact .tup (.cons (frz_row (fun _ _ => rfl) (by omega) _) (.cons (.keep rfl) (.cons (.keep rfl) .nil)))⟩
      · skip
        have hnl : ¬ S.length ≤ p1 := by simpa using hc23
        have hpl1 : p1 < S.length := by omega
        refine AW.skip ?_
        refine hK6 _ _ ?_; try clear hK6 K6
        refine AW.regl false [6, 7] (by rfl) fun K9 hK9 => ?_ -- region 6
        simp only [go_sem, Nat.reduceAdd, Nat.reduceEqDiff, Nat.reduceLeDiff, true_and, app_get, app_get0, app_set, app_set0, Option.map_some, Option.map_none, aExtract]
        refine sC.ofR en10 (hnx hpl1) (fun v' σ' hR => ?_)
        obtain ⟨k, s, x, y, z, e, q, rfl, rfl, hf2⟩ := hR
        simp only [go_sem, Nat.reduceAdd, Nat.reduceEqDiff, Nat.reduceLeDiff, true_and, app_get, app_get0, app_set, app_set0, Option.map_some, Option.map_none, aExtract]
        refine hK9 _ _ ?_; try clear hK9 K9
        conv => enter [5]; simp only [setL_cons, setL_nil, List.set_cons_zero, List.set_cons_succ]
        refine AW.seq_k fun K10 hK10 => ?_
        refine AW.regl false [42] (by rfl) fun K11 hK11 => ?_ -- region 7
        simp only [go_sem, Nat.reduceAdd, Nat.reduceEqDiff, Nat.reduceLeDiff, true_and, app_get, app_get0, app_set, app_set0, Option.map_some, Option.map_none]
        refine hK11 _ _ ?_; try clear hK11 K11
        conv => enter [5]; simp only [setL_cons, setL_nil, List.set_cons_zero, List.set_cons_succ]
        refine AW.cond rfl (fun hc42 => ?_) (fun hc42 => ?_)
        · skip
          have he : ¬ e = 0 := by simpa using hc42
          obtain ⟨h0e, rfl, rfl⟩ : ¬ (tk (S.drop p1)).2.2.2 = 0 ∧ (tk (S.drop p1)).2.2.2 = e ∧ p1 = q := by
            rcases hf2 with ⟨_, h, _⟩ | ⟨h1, h2, h3, _⟩
            · exact absurd h he
            · exact ⟨h1, h2.symm, h3.symm⟩
          have hM : lexM S = ([], p1, (tk (S.drop p1)).2.2.2) := by rw [← hfin, hp1]; exact lex_err (hp1 ▸ hgo) (hp1 ▸ hnl) (hp1 ▸ h0e)
          refine AW.regch mixed [σ ++ [.cells [i64 0, i64 0], .cells (LX S p1 (.slo true 5 ((T).map (tokT S)) (σ.length + 2))), .cap T.length 5, .cells [i64 k, str s, i64 x, i64 y, i64 z]], σ ++ [.cells [i64 (place S p1).1, i64 (place S p1).2], .cells (LX S p1 (.slo true 5 ((T).map (tokT S)) (σ.length + 2))), .cap T.length 5, .cells [i64 k, str s, i64 x, i64 y, i64 z]]] [(0, 0, true), (0, 0, true), (0, 0, true), (0, 0, true), (0, 1, true), (0, 0, true), (0, 0, false), (1, 1, true)] [2, 4] (by kernel_rfl) (by rfl) (by kernel_rfl) (by rfl) fun K12 hK12 => ?_ -- region 8
          simp only [go_sem, Nat.reduceAdd, Nat.reduceEqDiff, Nat.reduceLeDiff, true_and, app_get, app_get0, app_set, app_set0, Option.map_some, Option.map_none, List.append_assoc, List.cons_append, List.nil_append]
          refine xE.of (by first | rfl | (simp; done) | (simp; repeat' constructor)) ?_
          simp only [go_sem, Nat.reduceAdd, Nat.reduceEqDiff, Nat.reduceLeDiff, true_and, app_get, app_get0, app_set, app_set0, Option.map_some, Option.map_none, List.append_assoc, List.cons_append, List.nil_append]
          refine hK12 _ ?_; try clear hK12 K12
          conv => enter [5]; simp only [setL_cons, setL_nil, List.set_cons_zero, List.set_cons_succ]
          show AW _ _ _ _ _ (σ ++ [.cells [i64 (place S p1).1, i64 (place S p1).2], .cells (LX S p1 (.slo true 5 ((T).map (tokT S)) (σ.length + 2))), .cap T.length 5, .cells [i64 k, str s, i64 x, i64 y, i64 z]]) _
          exact AW.ret ⟨.inr rfl, _, ret_tct (v0 := .nilsl) (v := .agg [i64 (place S p1).1, i64 (place S p1).2]) (v2 := i64 (tk (S.drop p1)).2.2.2) rfl rfl (by simp only [go_sem, app_get, app_get0, List.append_assoc, List.cons_append, List.nil_append] <;> rfl) rfl, by simp, by rw [lexV_err hM h0e]; exact .keep rfl⟩
        · skip
          have he : e = 0 := by simpa using hc42
          obtain ⟨h0e, hq, hu⟩ : (tk (S.drop p1)).2.2.2 = 0 ∧ q = p1 + (tk (S.drop p1)).2.1 ∧ AV.agg [i64 k, str s, i64 x, i64 y, i64 z] = tokA S (tk (S.drop p1)).1 p1 (tk (S.drop p1)).2.1 (tk (S.drop p1)).2.2.1 := by
            rcases hf2 with ⟨h1, _, h3, h4⟩ | ⟨h1, h2, _⟩
            · exact ⟨h1, h3, h4⟩
            · exact absurd (h2 ▸ he) h1
          obtain ⟨rfl, rfl, rfl, rfl, rfl⟩ := tok_inj hu
          subst hq he
          have htn := tk_le (S.drop p1)
          have htp := tk_pos h0e
          rw [List.length_drop] at htn
          have hap := fun σ o => ap_tok (S := S) (T := T) (by omega) ⟨(tk (S.drop p1)).1, p1, (tk (S.drop p1)).2.1, (tk (S.drop p1)).2.2.1⟩ σ o (a := .agg [i64 (tk (S.drop p1)).1, str (bs ((S.drop p1).take (tk (S.drop p1)).2.1)), i64 (tk (S.drop p1)).2.2.1, i64 (place S p1).1, i64 (place S p1).2]) rfl
          refine AW.skip ?_
          refine hK10 _ _ ?_; try clear hK10 K10
          refine AW.lastch mixed [σ ++ [.cells [i64 0, i64 0], .cells (LX S (p1 + (tk (S.drop p1)).2.1) (.slo true 5 ((T).map (tokT S)) (σ.length + 2))), .cap T.length 5, .cells [i64 (tk (S.drop p1)).1, str (bs ((S.drop p1).take (tk (S.drop p1)).2.1)), i64 (tk (S.drop p1)).2.2.1, i64 (place S p1).1, i64 (place S p1).2]], σ ++ [.cells [i64 0, i64 0], .cells (LX S (p1 + (tk (S.drop p1)).2.1) (.slo true 5 ((T).map (tokT S)) (σ.length + 2))), .cap (T.length + 1) 5, .cells [i64 (tk (S.drop p1)).1, str (bs ((S.drop p1).take (tk (S.drop p1)).2.1)), i64 (tk (S.drop p1)).2.2.1, i64 (place S p1).1, i64 (place S p1).2]], σ ++ [.cells [i64 0, i64 0], .cells (LX S (p1 + (tk (S.drop p1)).2.1) (.slo true 5 (((T ++ [Tk.mk (tk (S.drop p1)).1 p1 (tk (S.drop p1)).2.1 (tk (S.drop p1)).2.2.1])).map (tokT S)) (σ.length + 2))), .cap (T.length + 1) 5, .cells [i64 (tk (S.drop p1)).1, str (bs ((S.drop p1).take (tk (S.drop p1)).2.1)), i64 (tk (S.drop p1)).2.2.1, i64 (place S p1).1, i64 (place S p1).2]]] [(0, 1, true), (0, 0, true), (0, 0, true), (0, 0, true), (0, 0, true), (0, 0, true), (0, 0, true), (0, 0, false), (1, 1, true), (1, 1, true), (0, 0, false)] [] (by kernel_rfl) (by rfl) (by kernel_rfl) (by rfl) fun K hK => ?_ -- region 9
          simp only [go_sem, Nat.reduceAdd, Nat.reduceEqDiff, Nat.reduceLeDiff, true_and, app_get, app_get0, app_set, app_set0, Option.map_some, Option.map_none, row1_22, hap, List.append_assoc, List.cons_append, List.nil_append]
          refine xE.of (by first | rfl | (simp; done) | (simp; repeat' constructor)) ?_
          simp only [go_sem, Nat.reduceAdd, Nat.reduceEqDiff, Nat.reduceLeDiff, true_and, app_get, app_get0, app_set, app_set0, Option.map_some, Option.map_none, row1_22, hap, List.append_assoc, List.cons_append, List.nil_append]
          refine xE.of (by first | rfl | (simp; done) | (simp; repeat' constructor)) ?_
          simp only [go_sem, Nat.reduceAdd, Nat.reduceEqDiff, Nat.reduceLeDiff, true_and, app_get, app_get0, app_set, app_set0, Option.map_some, Option.map_none, row1_22, hap, List.append_assoc, List.cons_append, List.nil_append]
          refine hK _ fun env' hw => ?_
          simp only [setL_cons, setL_nil, List.set_cons_zero, List.set_cons_succ, upd_none, upd_at] at hw
          refine ⟨(p1 + (tk (S.drop p1)).2.1, (T ++ [Tk.mk (tk (S.drop p1)).1 p1 (tk (S.drop p1)).2.1 (tk (S.drop p1)).2.2.1])), ?_, ⟨?_, ?_, f, ?_, ?_⟩, ?_, ?_⟩
          · simp only; omega
          · simp only; omega
          · simp only [List.length_append, List.length_cons, List.length_nil]; omega
          · simp only; omega
          · simp only
            rw [← hfin, hp1]
            exact (lex_tok (hp1 ▸ hgo) (hp1 ▸ hnl) (hp1 ▸ h0e)).symm
          · refine hw.trans ?_
            simp [Wk]
          · simp [List.take_append, List.take_of_length_le]
end Lx
end Go.Proofs.Tryd
/-! Lexing: what the laws need. -/
namespace Go.Proofs.Tryd
set_option linter.unusedSimpArgs false
set_option linter.unusedVariables false
open Go Go.Proofs.Ev
namespace Lx
variable {Γ : List (Nat × List AV)} {w : AV} {mx : Int} {te : TypeId}
theorem bT24 : prog.eqGuardType prog.depth 24 = false := by kernel_rfl
theorem eqD24 (a b c d : Int) : aEqD prog 6 24 (.agg [i64 a, i64 b]) (.agg [i64 c, i64 d]) = some ((a == c) && ((b == d) && true)) := by kernel_rfl
theorem eq24 (a b c d : Int) : aBin prog .eql 24 (.agg [i64 a, i64 b]) (.agg [i64 c, i64 d]) = some (.val (.bool (decide (a = c) && decide (b = d)))) := by
  simp only [aBin, bT24, Bool.false_eq_true, if_false, eqD24, Option.map_some, Bool.and_true]
  congr 3
theorem lexM_e (S : List UInt8) : (lexM S).2.2 = (lexF (S.length + 1) S 0).2.2 := by
  unfold lexM fin
  split
  · rename_i h
    exact h.symm
  · rfl
theorem lexM_T {S : List UInt8} (h : (lexM S).2.2 = 0) : (lexM S).1 = (lexF (S.length + 1) S 0).1 := by
  rw [lexM_e] at h
  unfold lexM fin
  rw [if_pos h]
  rfl
theorem lexM_err {S : List UInt8} (h : ¬ (lexM S).2.2 = 0) : (lexM S).1 = [] := by
  rw [lexM_e] at h
  unfold lexM fin
  rw [if_neg h]
/-- The tokens as texts, of a text without a fault. -/
theorem lexM_G {S : List UInt8} (h : (lexM S).2.2 = 0) : lexG (S.length + 1) S = some ((lexM S).1.map (asT S)) := by
  have := lexF_G (S.length + 1) S 0 (Nat.zero_le _)
  rw [List.drop_zero] at this
  rw [this, lexM_T h, if_pos (by rw [← lexM_e]; exact h)]
theorem lexG_M {S : List UInt8} {U : List (Int × List UInt8 × Int)} (h : lexG (S.length + 1) S = some U) : (lexM S).2.2 = 0 ∧ (lexM S).1.map (asT S) = U := by
  have h0 := lexF_G (S.length + 1) S 0 (Nat.zero_le _)
  rw [List.drop_zero, h] at h0
  by_cases he : (lexF (S.length + 1) S 0).2.2 = 0
  · rw [if_pos he] at h0
    have h1 : (lexM S).2.2 = 0 := by rw [lexM_e]; exact he
    exact ⟨h1, by rw [lexM_T h1]; exact (Option.some.inj h0).symm⟩
  · rw [if_neg he] at h0
    cases h0
theorem lexG_len : ∀ {f : Nat} {r : List UInt8} {U : List (Int × List UInt8 × Int)}, lexG f r = some U → (U.map (fun k => k.2.1.length)).sum ≤ r.length ∧ U.length ≤ r.length + 1 ∧ U ≠ []
  | 0, _, _, h => by cases h
  | f + 1, r, U, h => by
    have hsk := sk_le r
    unfold lexG at h
    split at h
    · cases h
    · split at h
      · cases h
        simp
      · split at h
        · rename_i h3
          obtain ⟨V, hV, rfl⟩ := Option.map_eq_some_iff.1 h
          have h1 := lexG_len hV
          have h2 := tk_le (r.drop (sk r))
          have h4 := tk_pos h3
          simp only [List.length_drop] at h1 h2
          refine ⟨?_, ?_, by simp⟩
          · simp only [List.map_cons, List.sum_cons, List.length_take, List.length_drop]
            omega
          · simp only [List.length_cons]
            omega
        · cases h
theorem cat_len (e : List UInt8) : ∀ U : List (Int × List UInt8 × Int), (cat e U).length = (U.map (fun k => k.2.1.length)).sum + U.length * e.length
  | [] => by simp [cat]
  | k :: U => by
    have := cat_len e U
    unfold cat at this ⊢
    rw [List.flatMap_cons, List.length_append, this, List.length_append, List.map_cons, List.sum_cons, List.length_cons, Nat.succ_mul]
    omega
theorem sep_len {e : List UInt8} (he : e ∈ seps) : 1 ≤ e.length ∧ e.length ≤ 6 := by
  simp only [seps, List.mem_cons, List.not_mem_nil, or_false] at he
  rcases he with rfl | rfl | rfl | rfl | rfl | rfl <;> decide
theorem cat_snoc {e : List UInt8} {U : List (Int × List UInt8 × Int)} {i : Nat} (hi : i < U.length) : cat e (U.take (i + 1)) = cat e (U.take i) ++ (U[i].2.1 ++ e) := by
  unfold cat
  rw [List.take_succ_eq_append_getElem hi, List.flatMap_append]
  simp
theorem cat_take_le (e : List UInt8) (U : List (Int × List UInt8 × Int)) (i : Nat) : (cat e (U.take i)).length ≤ (cat e U).length := by
  unfold cat
  conv => rhs; rw [← List.take_append_drop i U, List.flatMap_append, List.length_append]
  omega
/-- What comes of a text whose tokens are put one behind the other. -/
theorem back_law {S : List UInt8} (hS : S.length ≤ 2000) (h : (lexM S).2.2 = 0) {e : List UInt8} (he : e ∈ seps) :
    (cat e ((lexM S).1.map (asT S))).length ≤ 20000 ∧ (lexM (cat e ((lexM S).1.map (asT S)))).2.2 = 0 ∧ (lexM (cat e ((lexM S).1.map (asT S)))).1.map (asT (cat e ((lexM S).1.map (asT S)))) = (lexM S).1.map (asT S) ∧ (lexM S).1.length ≤ 2001 ∧ (lexM S).1 ≠ [] := by
  have hG := lexM_G h
  obtain ⟨l1, l2, l3⟩ := lexG_len hG
  have hs := sep_len he
  have hc := cat_len e ((lexM S).1.map (asT S))
  have hm : ((lexM S).1.map (asT S)).length * e.length ≤ 2001 * 6 := Nat.mul_le_mul (by omega) hs.2
  have hm1 : ((lexM S).1.map (asT S)).length * 1 ≤ ((lexM S).1.map (asT S)).length * e.length := Nat.mul_le_mul (Nat.le_refl _) hs.1
  have hb := back he hG
  obtain ⟨f, hf⟩ : ∃ f, lexG f (cat e ((lexM S).1.map (asT S))) = some ((lexM S).1.map (asT S)) := ⟨_, hb⟩
  have hfuel : ∀ {f : Nat} {r : List UInt8} {U : List (Int × List UInt8 × Int)}, lexG f r = some U → lexG U.length r = some U := by
    intro f
    induction f with
    | zero => intro r U h; cases h
    | succ f ih =>
      intro r U h
      unfold lexG at h
      split at h
      · cases h
      · rename_i g1
        split at h
        · rename_i g2
          cases h
          show lexG (0 + 1) r = _
          unfold lexG
          rw [if_neg g1, if_pos g2]
        · rename_i g2
          split at h
          · rename_i g3
            obtain ⟨V, hV, rfl⟩ := Option.map_eq_some_iff.1 h
            show lexG (V.length + 1) r = _
            unfold lexG
            rw [if_neg g1, if_neg g2, if_pos g3, ih hV]
            rfl
          · cases h
  have hb2 := lexG_mono (hfuel hb) (show ((lexM S).1.map (asT S)).length ≤ (cat e ((lexM S).1.map (asT S))).length + 1 by omega)
  obtain ⟨k1, k2⟩ := lexG_M hb2
  refine ⟨by omega, k1, k2, by rw [List.length_map] at l2; omega, fun h0 => l3 (by rw [h0]; rfl)⟩
/-- What is told of a text, in three parts. -/
theorem lexV_form (S : List UInt8) : ∃ a b : Int, lexV S = .tup [rowAV 5 true ((lexM S).1.map (tokT S)), .agg [i64 a, i64 b], i64 (lexM S).2.2] ∧ ((lexM S).2.2 = 0 → a = 0 ∧ b = 0) ∧ (¬ (lexM S).2.2 = 0 → a = (place S (lexM S).2.1).1 ∧ b = (place S (lexM S).2.1).2) := by
  unfold lexV
  by_cases h : (lexM S).2.2 = 0
  · rw [if_pos h]
    exact ⟨0, 0, rfl, fun _ => ⟨rfl, rfl⟩, fun g => absurd h g⟩
  · rw [if_neg h]
    exact ⟨_, _, rfl, fun g => absurd g h, fun _ => ⟨rfl, rfl⟩⟩
/-! The chapter's examples. -/
theorem ex1 : lexV [120, 45, 62, 45, 49] = .tup [.sl 5 [.agg [i64 1, str ⟨#[120]⟩, i64 0, i64 1, i64 1], .agg [i64 4, str ⟨#[45, 62]⟩, i64 0, i64 1, i64 2], .agg [i64 4, str ⟨#[45]⟩, i64 0, i64 1, i64 4], .agg [i64 3, str ⟨#[49]⟩, i64 1, i64 1, i64 5], .agg [i64 0, str ⟨#[]⟩, i64 0, i64 1, i64 6]], .agg [i64 0, i64 0], i64 0] := by kernel_rfl
theorem ex2 : lexV [97, 45, 45, 98] = .tup [.sl 5 [.agg [i64 1, str ⟨#[97]⟩, i64 0, i64 1, i64 1], .agg [i64 0, str ⟨#[]⟩, i64 0, i64 1, i64 5]], .agg [i64 0, i64 0], i64 0] := by kernel_rfl
def ex1V : AV := .tup [.sl 5 [.agg [i64 1, str ⟨#[120]⟩, i64 0, i64 1, i64 1], .agg [i64 4, str ⟨#[45, 62]⟩, i64 0, i64 1, i64 2], .agg [i64 4, str ⟨#[45]⟩, i64 0, i64 1, i64 4], .agg [i64 3, str ⟨#[49]⟩, i64 1, i64 1, i64 5], .agg [i64 0, str ⟨#[]⟩, i64 0, i64 1, i64 6]], .agg [i64 0, i64 0], i64 0]
def ex2V : AV := .tup [.sl 5 [.agg [i64 1, str ⟨#[97]⟩, i64 0, i64 1, i64 1], .agg [i64 0, str ⟨#[]⟩, i64 0, i64 1, i64 5]], .agg [i64 0, i64 0], i64 0]
theorem ex1_calls (hΓ : A.Words (GL w mx te)) : APure prog (GL w mx te) 5 [str ⟨#[120, 45, 62, 45, 49]⟩] ex1V := by
  rw [show ex1V = _ from ex1.symm]
  exact lex_calls hΓ [120, 45, 62, 45, 49] (by decide)
theorem ex2_calls (hΓ : A.Words (GL w mx te)) : APure prog (GL w mx te) 5 [str ⟨#[97, 45, 45, 98]⟩] ex2V := by
  rw [show ex2V = _ from ex2.symm]
  exact lex_calls hΓ [97, 45, 45, 98] (by decide)
def sepsB : List ByteArray := seps.map fun l => bs l
theorem row6 (σ : Sto) : aRow prog false σ 39 6 [(0, str ⟨#[32]⟩), (1, str ⟨#[10]⟩), (2, str ⟨#[9, 13]⟩), (3, str ⟨#[40, 42, 32, 42, 41]⟩), (4, str ⟨#[32, 45, 45, 32, 120, 10]⟩), (5, str ⟨#[40, 42, 41, 42, 41]⟩)] = some (.sl 1 (sepsB.map str), σ) := aRow_sl (by kernel_rfl) (by decide) (row39 (by decide) (by decide) rfl (A.parts_of rfl)) σ
theorem rem6 (T : TypeId) (a : Nat) : aBin prog .rem T (.val (.int .u8 ((a : Nat) : Int))) (.val (.int .u8 6)) = some (.val (.int .u8 ((a % 6 : Nat) : Int))) := by
  have : (a : Int).tmod 6 = ((a % 6 : Nat) : Int) := rfl
  simp only [aBin, aInt, if_true, this]
  rfl
theorem addS (T : TypeId) {a b : List UInt8} (h : a.length + b.length ≤ 1000000) : aBin prog .add T (str (bs a)) (str (bs b)) = some (str (bs (a ++ b))) := by
  have h1 : ¬ (((bs a).size + (bs b).size : Nat) : Int) > IntKind.i64.max := by
    rw [bs_size, bs_size]
    show ¬ ((a.length + b.length : Nat) : Int) > 9223372036854775807
    omega
  simp only [str, aBin, aStr, if_neg h1, Option.map_some, bs_app]
theorem nN0 : (((0 : Nat) : Int) == 0) = true := rfl
theorem n5 : (((5 : Nat) : Int) == 5) = true := rfl
theorem n2 : (((2 : Nat) : Int) == 2) = true := rfl
theorem n1 : ((1 : Int) == 1) = true := rfl
theorem n0 : ((0 : Int) == 0) = true := rfl
theorem neSS (T : TypeId) (a b : List UInt8) : aBin prog .neq T (str (bs a)) (str (bs b)) = some (.val (.bool (!decide (a = b)))) := by
  simp only [aBin, aStr, Option.map_some, ba_beqL]
  congr 4
  exact decide_eq_decide.2 bs_inj
theorem at51 {l : List AV} {a b : AV} (k : IntKind) : aAt 5 (.sl 5 (a :: b :: l)) (.val (.int k 1)) = some (.er b.cells) := at_sl (i := 1) rfl
theorem at53 {l : List AV} {a b c d : AV} (k : IntKind) : aAt 5 (.sl 5 (a :: b :: c :: d :: l)) (.val (.int k 3)) = some (.er d.cells) := at_sl (i := 3) rfl
theorem eqS45 (T : TypeId) (s : ByteArray) : aBin prog .eql T (str s) (str s) = some (.val (.bool true)) := by
  simp [aBin, aStr]
end Lx
end Go.Proofs.Tryd
/-! Lexing: function 8. -/
namespace Go.Proofs.Tryd
set_option linter.unusedSimpArgs false
set_option linter.unusedVariables false
open Go Go.Proofs.Ev
namespace Lx
variable {Γ : List (Nat × List AV)} {w : AV} {mx : Int} {te : TypeId}
set_option maxRecDepth 100000 in
theorem awake_calls (hΓ : A.Words (GL w mx te)) : APure prog (GL w mx te) 8 [] (.val (.bool true)) := by
  refine APure.of func8 rfl fun σ => ?_
  simp only [ntmps8, List.length_cons, List.length_nil, Nat.reduceAdd, Nat.reduceSub, List.replicate_succ, List.replicate_zero, List.cons_append, List.nil_append]
  refine AW.regl false [0] (by rfl) fun K1 hK1 => ?_ -- region 0
  simp only [go_sem, Nat.reduceAdd, Nat.reduceEqDiff, Nat.reduceLeDiff, true_and, ls_len, app_get, app_get0]
  refine hK1 _ _ ?_; try clear hK1 K1
  conv => enter [5]; simp only [setL_cons, setL_nil, List.set_cons_zero, List.set_cons_succ]
  refine AW.regl false [1, 3] (by rfl) fun K2 hK2 => ?_ -- region 1
  simp only [go_sem, Nat.reduceAdd, Nat.reduceEqDiff, Nat.reduceLeDiff, true_and, ls_len, app_get, app_get0, ex1V, aExtract]
  refine sC.of en5 ((ex1_calls hΓ).on _).here (by rfl) ?_
  simp only [go_sem, Nat.reduceAdd, Nat.reduceEqDiff, Nat.reduceLeDiff, true_and, ls_len, app_get, app_get0, ex1V, aExtract]
  refine hK2 _ _ ?_; try clear hK2 K2
  conv => enter [5]; simp only [setL_cons, setL_nil, List.set_cons_zero, List.set_cons_succ]
  refine AW.regl false [4, 6] (by rfl) fun K3 hK3 => ?_ -- region 2
  simp only [go_sem, Nat.reduceAdd, Nat.reduceEqDiff, Nat.reduceLeDiff, true_and, ls_len, app_get, app_get0, ex2V, aExtract]
  refine sC.of en5 ((ex2_calls hΓ).on _).here (by rfl) ?_
  simp only [go_sem, Nat.reduceAdd, Nat.reduceEqDiff, Nat.reduceLeDiff, true_and, ls_len, app_get, app_get0, ex2V, aExtract]
  refine hK3 _ _ ?_; try clear hK3 K3
  conv => enter [5]; simp only [setL_cons, setL_nil, List.set_cons_zero, List.set_cons_succ]
  refine AW.regtf false 0 (.val (.bool (true))) (by rfl) ?_ ?_ -- region 3
  · skip
    simp only [go_sem, Nat.reduceAdd, Nat.reduceEqDiff, Nat.reduceLeDiff, true_and, ls_len, app_get, app_get0, eq24, at51, at53, eqS45, beq_self_eq_true, if_true, decide_true, Bool.and_true, List.length_cons, List.length_nil, Nat.zero_add, n5, n2, n1, n0]
    try simp [upd_at, ls_len, app_get, app_get0, eq24, at51, at53, eqS45, beq_self_eq_true, if_true, decide_true, Bool.and_true, List.length_cons, List.length_nil, Nat.zero_add, n5, n2, n1, n0]
  conv => enter [5]; simp only [List.set_cons_zero, List.set_cons_succ]
  refine AW.ret ⟨.inr rfl, _, rfl, by simp, ?_⟩ -- return 1
  exact .keep rfl
end Lx
end Go.Proofs.Tryd
/-! Lexing: function 4. -/
namespace Go.Proofs.Tryd
set_option linter.unusedSimpArgs false
set_option linter.unusedVariables false
open Go Go.Proofs.Ev
namespace Lx
variable {Γ : List (Nat × List AV)} {w : AV} {mx : Int} {te : TypeId}
theorem lexL (hΓ : A.Words (GL w mx te)) (s : List UInt8) (hs : s.length ≤ 20000) {v : AV} (h : lexV s = v) : APure prog (GL w mx te) 5 [str (bs s)] v := h ▸ lex_calls hΓ s hs
set_option maxRecDepth 100000 in
set_option maxHeartbeats 1000000 in
theorem back_calls (hΓ : A.Words (GL w mx te)) (s : List UInt8) (hs : s.length ≤ 9223372036854775807) (how : Nat) : APure prog (GL w mx te) 4 [str (bs s), .val (.int .u8 ((how : Nat) : Int))] (.val (.bool true)) := by
  refine APure.of func4 rfl fun σ => ?_
  simp only [ntmps4, List.length_cons, List.length_nil, Nat.reduceAdd, Nat.reduceSub, List.replicate_succ, List.replicate_zero, List.cons_append, List.nil_append]
  refine AW.regl false [4] (by rfl) fun K1 hK1 => ?_ -- region 0
  simp only [go_sem, Nat.reduceAdd, Nat.reduceEqDiff, Nat.reduceLeDiff, true_and, app_get, app_get0, bs_size, len_row, List.length_map]
  refine hK1 _ _ ?_; try clear hK1 K1
  conv => enter [5]; simp only [setL_cons, setL_nil, List.set_cons_zero, List.set_cons_succ]
  refine AW.seq_k fun K2 hK2 => ?_
  refine AW.regl false [17] (by rfl) fun K3 hK3 => ?_ -- region 1
  simp only [go_sem, Nat.reduceAdd, Nat.reduceEqDiff, Nat.reduceLeDiff, true_and, app_get, app_get0, bs_size, len_row, List.length_map]
  refine hK3 _ _ ?_; try clear hK3 K3
  conv => enter [5]; simp only [setL_cons, setL_nil, List.set_cons_zero, List.set_cons_succ]
  refine AW.cond rfl (fun hc17 => ?_) (fun hc17 => ?_)
  · skip
    refine AW.regl false [4] (by rfl) fun K4 hK4 => ?_ -- region 2
    simp only [go_sem, Nat.reduceAdd, Nat.reduceEqDiff, Nat.reduceLeDiff, true_and, app_get, app_get0, bs_size, len_row, List.length_map]
    refine hK4 _ _ ?_; try clear hK4 K4
    conv => enter [5]; simp only [setL_cons, setL_nil, List.set_cons_zero, List.set_cons_succ]
    refine AW.ret ⟨.inr rfl, _, rfl, by simp, ?_⟩ -- return 1
    exact .keep rfl
  · skip
    have hsl : s.length ≤ 2000 := by have h := hc17; simp at h; omega
    obtain ⟨a, b, hV, _, _⟩ := lexV_form s
    obtain ⟨L, hL⟩ : ∃ z, z = (lexM s).1 := ⟨_, rfl⟩
    obtain ⟨E, hE⟩ : ∃ z, z = (lexM s).2.2 := ⟨_, rfl⟩
    rw [← hL, ← hE] at hV
    refine AW.skip ?_
    refine hK2 _ _ ?_; try clear hK2 K2
    refine AW.regl false [5, 7] (by rfl) fun K5 hK5 => ?_ -- region 3
    simp only [go_sem, Nat.reduceAdd, Nat.reduceEqDiff, Nat.reduceLeDiff, true_and, app_get, app_get0, bs_size, len_row, List.length_map, aExtract]
    refine sC.of en5 ((lexL hΓ s (by omega) hV).on _).here (by rfl) ?_
    simp only [go_sem, Nat.reduceAdd, Nat.reduceEqDiff, Nat.reduceLeDiff, true_and, app_get, app_get0, bs_size, len_row, List.length_map, aExtract]
    refine hK5 _ _ ?_; try clear hK5 K5
    conv => enter [5]; simp only [setL_cons, setL_nil, List.set_cons_zero, List.set_cons_succ]
    refine AW.seq_k fun K6 hK6 => ?_
    refine AW.regtf false 30 (.val (.bool (E != 0 || ((L.length : Nat) : Int) == 0))) (by rfl) ?_ ?_ -- region 4
    · skip
      cases h25 : (E != 0)
      · skip
        simp only [go_sem, Nat.reduceAdd, Nat.reduceEqDiff, Nat.reduceLeDiff, true_and, app_get, app_get0, bs_size, len_row, List.length_map, h25]
        try simp [upd_at, h25, app_get, app_get0, bs_size, len_row, List.length_map]
      · skip
        simp only [go_sem, Nat.reduceAdd, Nat.reduceEqDiff, Nat.reduceLeDiff, true_and, app_get, app_get0, bs_size, len_row, List.length_map, h25]
        try simp [upd_at, h25, app_get, app_get0, bs_size, len_row, List.length_map]
    conv => enter [5]; simp only [List.set_cons_zero, List.set_cons_succ]
    refine AW.cond rfl (fun hc30 => ?_) (fun hc30 => ?_)
    · skip
      have hL0 : L.length = 0 := by
        have h := hc30
        simp at h
        by_cases he : (lexM s).2.2 = 0
        · rw [← hE] at he
          rcases h with h | h
          · exact absurd he h
          · rw [h]; rfl
        · rw [hL, lexM_err he]; rfl
      refine AW.regtf false 4 (.val (.bool (true))) (by rfl) ?_ ?_ -- region 5
      · skip
        simp only [go_sem, Nat.reduceAdd, Nat.reduceEqDiff, Nat.reduceLeDiff, true_and, app_get, app_get0, bs_size, len_row, List.length_map, hL0, nN0, n0, beq_self_eq_true]
        refine sC.of en8 ((awake_calls hΓ).on _).here (by rfl) ?_
        simp only [go_sem, Nat.reduceAdd, Nat.reduceEqDiff, Nat.reduceLeDiff, true_and, app_get, app_get0, bs_size, len_row, List.length_map, hL0, nN0, n0, beq_self_eq_true]
        try simp [upd_at, app_get, app_get0, bs_size, len_row, List.length_map, hL0, nN0, n0, beq_self_eq_true]
      conv => enter [5]; simp only [List.set_cons_zero, List.set_cons_succ]
      refine AW.ret ⟨.inr rfl, _, rfl, by simp, ?_⟩ -- return 2
      exact .keep rfl
    · skip
      have hE0 : E = 0 := by have h := hc30; simp at h; exact h.1
      obtain ⟨e, he⟩ : ∃ z, seps[how % 6]? = some z := ⟨_, List.getElem?_eq_getElem (show how % 6 < 6 by omega)⟩
      have hem : e ∈ seps := List.mem_of_getElem? he
      have hse : (sepsB.map str)[how % 6]? = some (str (bs e)) := by simp [sepsB, he]
      obtain ⟨hcl, hb1, hb2, hll, _⟩ := back_law hsl (by rw [← hE]; exact hE0) hem
      rw [← hL] at hcl hb1 hb2 hll
      have hlm : L.length ≤ maxLen := by rw [maxLen_eq]; omega
      have hse6 := sep_len hem
      have hnlen : ∀ i (h : i < L.length), ((s.drop L[i].at_).take L[i].n).length ≤ 2000 := fun i h => by
        have h1 := List.length_take_le L[i].n (s.drop L[i].at_)
        have h2 : ((s.drop L[i].at_).take L[i].n).length ≤ (s.drop L[i].at_).length := List.length_take_le' _ _
        rw [List.length_drop] at h2
        omega
      refine AW.skip ?_
      refine hK6 _ _ ?_; try clear hK6 K6
      refine AW.regl false [8] (by rfl) fun K9 hK9 => ?_ -- region 6
      simp only [go_sem, Nat.reduceAdd, Nat.reduceEqDiff, Nat.reduceLeDiff, true_and, app_get, app_get0, bs_size, len_row, List.length_map, row6, rem6, at_sl hse]
      refine hK9 _ _ ?_; try clear hK9 K9
      conv => enter [5]; simp only [setL_cons, setL_nil, List.set_cons_zero, List.set_cons_succ]
      refine AW.regl false [9] (by rfl) fun K10 hK10 => ?_ -- region 7
      simp only [go_sem, Nat.reduceAdd, Nat.reduceEqDiff, Nat.reduceLeDiff, true_and, app_get, app_get0, bs_size, len_row, List.length_map]
      refine hK10 _ _ ?_; try clear hK10 K10
      conv => enter [5]; simp only [setL_cons, setL_nil, List.set_cons_zero, List.set_cons_succ]
      refine AW.seq_k fun K11 hK11 => ?_
      refine AW.regl false [10] (by rfl) fun K12 hK12 => ?_ -- region 8
      simp only [go_sem, Nat.reduceAdd, Nat.reduceEqDiff, Nat.reduceLeDiff, true_and, app_get, app_get0, bs_size, len_row, List.length_map]
      refine hK12 _ _ ?_; try clear hK12 K12
      conv => enter [5]; simp only [setL_cons, setL_nil, List.set_cons_zero, List.set_cons_succ]
      refine AW.block ?_
      refine AW.loop_wk (α := Nat) (fun i => [.any, .any, .any, .any, .any, (rowAV 5 true (L.map (tokT s))), .any, .any, (.val (.string (bs e))), (.val (.string (bs (cat e ((L.map (asT s)).take i))))), (.val (.int .i64 ((i : Nat) : Int))), .any, .any, .any, .any, .any, .any, .any, .any, .any, .any, .any, .any, .any, .any, .any, .any, .any, .any, .any, .any, .any, .any, .any, .any, .any, .any, .any, .any, .any, .any, .any, .any, .any, .any, .any, .any, .any, .any, .any, .any, .any, .any, .any, .any, .any, .any, .any, .any, .any, .any, .any, .any, .any, .any, .any, .any, .any, .any, .any, .any, .any, .any, .any, .any, .any, .any, .any, .any, .any, .any, .any, .any, .any, .any, .any, .any, .any, .any, .any, .any, .any, .any, .any, .any, .any, .any, .any, .any, .any, .any, .any, .any, .any, .any, .any, .any, .any, .any, .any, .any, .any, .any, .any, .any, .any]) (fun i => σ ++ [.cells [.val (.int .i64 a), .val (.int .i64 b)]]) (fun i => L.length - i) (fun i => i ≤ L.length) 0 ?_ ?_
      · exact ⟨Nat.zero_le _, by simp [Wk, cat]; rfl, rfl⟩
      · intro i hi
        refine AW.seq_k fun K13 hK13 => ?_
        refine AW.regl false [45] (by rfl) fun K14 hK14 => ?_ -- region 9
        simp only [go_sem, Nat.reduceAdd, Nat.reduceEqDiff, Nat.reduceLeDiff, true_and, app_get, app_get0, bs_size, len_row, List.length_map]
        refine hK14 _ _ ?_; try clear hK14 K14
        conv => enter [5]; simp only [setL_cons, setL_nil, List.set_cons_zero, List.set_cons_succ]
        refine AW.cond rfl (fun hc45 => ?_) (fun hc45 => ?_)
        · skip
          have hi1 : i < L.length := by simpa using hc45
          have hx : (L.map (tokT s))[i]? = some (tokT s L[i]) := by simp [hi1]
          have hi2 : i < (L.map (asT s)).length := by simpa using hi1
          have hsn := cat_snoc (e := e) hi2
          have hg2 : (L.map (asT s))[i].2.1 = (s.drop L[i].at_).take L[i].n := by rw [List.getElem_map]; rfl
          rw [hg2] at hsn
          have hct := cat_take_le e (L.map (asT s)) i
          have hadd1 := fun T => addS T (a := (s.drop L[i].at_).take L[i].n) (b := e) (by have := hnlen i hi1; omega)
          have hadd2 := fun T => addS T (a := cat e ((L.map (asT s)).take i)) (b := ((s.drop L[i].at_).take L[i].n) ++ e) (by have := hnlen i hi1; rw [List.length_append]; omega)
          rw [← hsn] at hadd2
          refine AW.skip ?_
          refine hK13 _ _ ?_; try clear hK13 K13
          refine AW.seq_k fun K15 hK15 => ?_
          refine AW.block ?_
          refine AW.lastl false [9] (by rfl) fun K hK => ?_ -- region 11
          simp only [go_sem, Nat.reduceAdd, Nat.reduceEqDiff, Nat.reduceLeDiff, true_and, app_get, app_get0, bs_size, len_row, List.length_map, at_row hx, tokT, hadd1, hadd2]
          refine hK _ _ fun env' hw => ?_
          simp only [setL_cons, setL_nil, List.set_cons_zero, List.set_cons_succ] at hw
          refine hK15 _ _ (AW.weaken hw ?_); clear hw; try clear hK15 K15
          refine AW.lastl false [10] (by rfl) fun K hK => ?_ -- region 10
          simp only [go_sem, Nat.reduceAdd, Nat.reduceEqDiff, Nat.reduceLeDiff, true_and, app_get, app_get0, bs_size, len_row, List.length_map]
          refine hK _ _ fun env' hw => ?_
          simp only [setL_cons, setL_nil, List.set_cons_zero, List.set_cons_succ] at hw
          refine ⟨i + 1, by omega, by omega, ?_, rfl⟩
          refine hw.trans ?_
          simp [Wk, wrap_succ hi1 hlm]
          try omega
        · skip
          have hi1 : i = L.length := by
            have : ¬ i < L.length := by simpa using hc45
            omega
          have htk : (L.map (asT s)).take L.length = L.map (asT s) := List.take_of_length_le (by simp)
          obtain ⟨t, ht⟩ : ∃ z, z = cat e (L.map (asT s)) := ⟨_, rfl⟩
          obtain ⟨a2, b2, hV2, _, _⟩ := lexV_form t
          obtain ⟨M, hM⟩ : ∃ z, z = (lexM t).1 := ⟨_, rfl⟩
          rw [← ht] at hcl hb1 hb2
          rw [← hM] at hb2 hV2
          rw [hb1] at hV2
          have hml : M.length = L.length := by have := congrArg List.length hb2; simpa using this
          have htl : t.length ≤ 20000 := hcl
          refine AW.exit ?_
          refine hK11 _ _ ?_; try clear hK11 K11
          rw [hi1, htk, ← ht]
          refine AW.regl false [11, 13] (by rfl) fun K16 hK16 => ?_ -- region 12
          simp only [go_sem, Nat.reduceAdd, Nat.reduceEqDiff, Nat.reduceLeDiff, true_and, app_get, app_get0, bs_size, len_row, List.length_map, aExtract]
          refine sC.of en5 ((lexL hΓ t htl hV2).on _).here (by rfl) ?_
          simp only [go_sem, Nat.reduceAdd, Nat.reduceEqDiff, Nat.reduceLeDiff, true_and, app_get, app_get0, bs_size, len_row, List.length_map, aExtract]
          refine hK16 _ _ ?_; try clear hK16 K16
          conv => enter [5]; simp only [setL_cons, setL_nil, List.set_cons_zero, List.set_cons_succ]
          refine AW.seq_k fun K17 hK17 => ?_
          refine AW.regtf false 71 (.val (.bool (false))) (by rfl) ?_ ?_ -- region 13
          · skip
            simp only [go_sem, Nat.reduceAdd, Nat.reduceEqDiff, Nat.reduceLeDiff, true_and, app_get, app_get0, bs_size, len_row, List.length_map, hml, bne_self_eq_false]
            try simp [upd_at, app_get, app_get0, bs_size, len_row, List.length_map, hml, bne_self_eq_false]
          conv => enter [5]; simp only [List.set_cons_zero, List.set_cons_succ]
          refine AW.cond rfl (fun hc71 => ?_) (fun hc71 => ?_)
          · skip
            exact absurd hc71 (by simp)
          · skip
            refine AW.skip ?_
            refine hK17 _ _ ?_; try clear hK17 K17
            refine AW.seq_k fun K19 hK19 => ?_
            refine AW.regl false [14] (by rfl) fun K20 hK20 => ?_ -- region 15
            simp only [go_sem, Nat.reduceAdd, Nat.reduceEqDiff, Nat.reduceLeDiff, true_and, app_get, app_get0, bs_size, len_row, List.length_map]
            refine hK20 _ _ ?_; try clear hK20 K20
            conv => enter [5]; simp only [setL_cons, setL_nil, List.set_cons_zero, List.set_cons_succ]
            refine AW.block ?_
            refine AW.loop_wk (α := Nat) (fun i => [.any, .any, .any, .any, .any, (rowAV 5 true (L.map (tokT s))), .any, .any, .any, .any, .any, (rowAV 5 true (M.map (tokT t))), .any, .any, (.val (.int .i64 ((i : Nat) : Int))), .any, .any, .any, .any, .any, .any, .any, .any, .any, .any, .any, .any, .any, .any, .any, .any, .any, .any, .any, .any, .any, .any, .any, .any, .any, .any, .any, .any, .any, .any, .any, .any, .any, .any, .any, .any, .any, .any, .any, .any, .any, .any, .any, .any, .any, .any, .any, .any, .any, .any, .any, .any, .any, .any, .any, .any, .any, .any, .any, .any, .any, .any, .any, .any, .any, .any, .any, .any, .any, .any, .any, .any, .any, .any, .any, .any, .any, .any, .any, .any, .any, .any, .any, .any, .any, .any, .any, .any, .any, .any, .any, .any, .any, .any, .any, .any, .any, .any, .any, .any, .any]) (fun i => σ ++ [.cells [.val (.int .i64 a), .val (.int .i64 b)], .cells [.val (.int .i64 a2), .val (.int .i64 b2)]]) (fun i => L.length - i) (fun i => i ≤ L.length) 0 ?_ ?_
            · exact ⟨Nat.zero_le _, by simp [Wk], rfl⟩
            · intro i hi
              refine AW.seq_k fun K21 hK21 => ?_
              refine AW.regl false [75] (by rfl) fun K22 hK22 => ?_ -- region 16
              simp only [go_sem, Nat.reduceAdd, Nat.reduceEqDiff, Nat.reduceLeDiff, true_and, app_get, app_get0, bs_size, len_row, List.length_map]
              refine hK22 _ _ ?_; try clear hK22 K22
              conv => enter [5]; simp only [setL_cons, setL_nil, List.set_cons_zero, List.set_cons_succ]
              refine AW.cond rfl (fun hc75 => ?_) (fun hc75 => ?_)
              · skip
                have hi1 : i < L.length := by simpa using hc75
                have hx : (L.map (tokT s))[i]? = some (tokT s L[i]) := by simp [hi1]
                have hj1 : i < M.length := by omega
                have hy : (M.map (tokT t))[i]? = some (tokT t M[i]) := by simp [hj1]
                have hEq : asT t M[i] = asT s L[i] := by
                  have := congrArg (fun l => l[i]?) hb2
                  simp only [List.getElem?_map, List.getElem?_eq_getElem hi1, List.getElem?_eq_getElem hj1, Option.map_some, Option.some.injEq] at this
                  exact this
                have q1 : M[i].kind = L[i].kind := congrArg (fun k => k.1) hEq
                have q2 : (t.drop M[i].at_).take M[i].n = (s.drop L[i].at_).take L[i].n := congrArg (fun k => k.2.1) hEq
                have q3 : M[i].v = L[i].v := congrArg (fun k => k.2.2) hEq
                refine AW.skip ?_
                refine hK21 _ _ ?_; try clear hK21 K21
                refine AW.seq_k fun K23 hK23 => ?_
                refine AW.block ?_
                refine AW.regtdf mixed false 114 (.val (.bool (false))) (by kernel_rfl) (by rfl) ?_ ?_ -- region 18
                · skip
                  simp only [go_sem, Nat.reduceAdd, Nat.reduceEqDiff, Nat.reduceLeDiff, true_and, app_get, app_get0, bs_size, len_row, List.length_map, at_row hx, at_row hy, tokT, q1, q2, q3, bne_self_eq_false, neSS, decide_true, Bool.not_true]
                  try simp [upd_at, app_get, app_get0, bs_size, len_row, List.length_map, at_row hx, at_row hy, tokT, q1, q2, q3, bne_self_eq_false, neSS, decide_true, Bool.not_true]
                conv => enter [5]; simp only [List.set_cons_zero, List.set_cons_succ]
                refine AW.cond rfl (fun hc114 => ?_) (fun hc114 => ?_)
                · skip
                  exact absurd hc114 (by simp)
                · skip
                  refine AW.skip ?_
                  refine hK23 _ _ ?_; try clear hK23 K23
                  refine AW.lastl false [14] (by rfl) fun K hK => ?_ -- region 17
                  simp only [go_sem, Nat.reduceAdd, Nat.reduceEqDiff, Nat.reduceLeDiff, true_and, app_get, app_get0, bs_size, len_row, List.length_map]
                  refine hK _ _ fun env' hw => ?_
                  simp only [setL_cons, setL_nil, List.set_cons_zero, List.set_cons_succ] at hw
                  refine ⟨i + 1, by omega, by omega, ?_, rfl⟩
                  refine hw.trans ?_
                  simp [Wk, wrap_succ hi1 hlm]
                  try omega
              · skip
                have hi1 : i = L.length := by
                  have : ¬ i < L.length := by simpa using hc75
                  omega
                refine AW.exit ?_
                refine hK19 _ _ ?_; try clear hK19 K19
                refine AW.regl false [4] (by rfl) fun K25 hK25 => ?_ -- region 20
                simp only [go_sem, Nat.reduceAdd, Nat.reduceEqDiff, Nat.reduceLeDiff, true_and, app_get, app_get0, bs_size, len_row, List.length_map]
                refine sC.of en8 ((awake_calls hΓ).on _).here (by rfl) ?_
                simp only [go_sem, Nat.reduceAdd, Nat.reduceEqDiff, Nat.reduceLeDiff, true_and, app_get, app_get0, bs_size, len_row, List.length_map]
                refine hK25 _ _ ?_; try clear hK25 K25
                conv => enter [5]; simp only [setL_cons, setL_nil, List.set_cons_zero, List.set_cons_succ]
                refine AW.ret ⟨.inr rfl, _, rfl, by simp, ?_⟩ -- return 3
                exact .keep rfl
end Lx
end Go.Proofs.Tryd
