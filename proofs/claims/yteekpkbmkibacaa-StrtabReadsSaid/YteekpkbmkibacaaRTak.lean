import Derived.Test.YteekpkbmkibacaaRTaj
import Derived.Test.YteekpkbmkibacaaREvList
/-! Readers: what the functions come to. -/
namespace Go.Proofs.Try
set_option linter.unusedSimpArgs false
set_option linter.unusedVariables false
open Go Go.Proofs.Ev
variable {Γ : List (Nat × List AV)}
abbrev u64 (n : Nat) : AV := .val (.int .u64 ((n : Nat) : Int))
/-- A reader as it lives. -/
abbrev RC (nl : Bool) (r : Rd) : AO := .cells [rowAV 1 nl (bys r.b), i64 r.e]
theorem set_self' {σ : Sto} {k : Nat} {c : AO} (h : σ[k]? = some c) : σ = σ.set k c := by
  apply List.ext_getElem?
  intro i
  rw [List.getElem?_set]
  split
  · rename_i e
    subst e
    rw [h]
    simp [(List.getElem?_eq_some_iff.1 h).1]
  · rfl
theorem bys_take (l : List UInt8) (n : Nat) : bys (l.take n) = (bys l).take n := by simp [bys]
theorem bys_drop (l : List UInt8) (n : Nat) : bys (l.drop n) = (bys l).drop n := by simp [bys]
theorem under25 : prog.underlying 25 = some (.slice 5) := by kernel_rfl
theorem info5 : ∃ i, prog.info? 5 = some i ∧ i.size = 1 := Option.map_eq_some_iff.1 (show (prog.info? 5).map (·.size) = some 1 by kernel_rfl)
theorem sl_hi (nl : Bool) (b : List UInt8) (k : IntKind) {n : Nat} (h : n ≤ b.length) : aSlice prog 25 (rowAV 1 nl (bys b)) none (some (.val (.int k (n : Nat)))) = some (rowAV 1 (nl && b.isEmpty) (bys (b.take n))) := by
  obtain ⟨i, h1, h2⟩ := info5
  cases b with
  | nil =>
    have hn : n = 0 := by simpa using h
    subst hn
    cases nl
    · show aSlice prog 25 (.sl 1 []) none (some (.val (.int k 0))) = some (.sl 1 [])
      simp [aSlice, under25, h1, h2, aSliceBound]
    · show aSlice prog 25 .nilsl none (some (.val (.int k 0))) = some .nilsl
      simp [aSlice, under25, h1, aSliceBound]
  | cons y b =>
    have hrow : rowAV 1 nl (bys (y :: b)) = .sl 1 (bys (y :: b)) := rfl
    rw [hrow]
    simp only [aSlice, under25, h1, h2, if_true, aSliceBound, bys_len]
    rw [if_pos ⟨by omega, by omega⟩, Bool.and_comm, show (y :: b).isEmpty = false from rfl, Bool.false_and, row_false, bys_take]
    simp
theorem sl_lo (nl : Bool) (b : List UInt8) (k : IntKind) {n : Nat} (h : n ≤ b.length) : aSlice prog 25 (rowAV 1 nl (bys b)) (some (.val (.int k (n : Nat)))) none = some (rowAV 1 (nl && b.isEmpty) (bys (b.drop n))) := by
  obtain ⟨i, h1, h2⟩ := info5
  cases b with
  | nil =>
    have hn : n = 0 := by simpa using h
    subst hn
    cases nl
    · show aSlice prog 25 (.sl 1 []) (some (.val (.int k 0))) none = some (.sl 1 [])
      simp [aSlice, under25, h1, h2, aSliceBound]
    · show aSlice prog 25 .nilsl (some (.val (.int k 0))) none = some .nilsl
      simp [aSlice, under25, h1, aSliceBound]
  | cons y b =>
    have hrow : rowAV 1 nl (bys (y :: b)) = .sl 1 (bys (y :: b)) := rfl
    rw [hrow]
    simp only [aSlice, under25, h1, h2, if_true, aSliceBound, bys_len]
    rw [if_pos ⟨by omega, by omega⟩, Bool.and_comm, show (y :: b).isEmpty = false from rfl, Bool.false_and, row_false, bys_drop, List.take_of_length_le (by rw [bys_len]; exact Nat.le_refl _)]
    simp
theorem conv_row (σ : Sto) (nl : Bool) (y : List UInt8) : aConv prog σ 25 9 (rowAV 1 nl (bys y)) = some (str (bs y), σ) := by
  cases y with
  | nil => 
    cases nl
    · exact conv_sl σ []
    · rw [show rowAV 1 true (bys []) = .nilsl from rfl, aConv_str (by kernel_rfl) (by kernel_rfl) σ _ (fun _ _ => by simp) (fun _ => by simp), aStrOf_eq (by kernel_rfl) (by kernel_rfl)]
      rfl
  | cons a y => exact conv_sl σ (a :: y)
/-- What stands when n bytes were asked for: short or not. -/
def Rd.ask (r : Rd) (n : Nat) : Rd := if r.b.length < n then r.fail 1 else r
theorem ask_bad {r : Rd} {n : Nat} (h : (r.ask n).e ≠ 0) : r.raw n = ([], r.ask n) := by
  unfold Rd.ask Rd.fail at *
  unfold Rd.raw
  by_cases h0 : r.e = 0
  · by_cases h1 : r.b.length < n
    · rw [if_neg (by simp [h0]), if_pos h1, if_pos h1, if_pos h0]
    · rw [if_neg h1] at h
      exact absurd h0 h
  · rw [if_pos h0, if_neg h0]
    split <;> rfl
theorem ask_ok {r : Rd} {n : Nat} (h : (r.ask n).e = 0) : r.ask n = r ∧ r.e = 0 ∧ n ≤ r.b.length ∧ r.raw n = (r.b.take n, ⟨r.b.drop n, 0⟩) := by
  unfold Rd.ask Rd.fail at *
  unfold Rd.raw
  by_cases h1 : r.b.length < n
  · rw [if_pos h1] at h
    by_cases h0 : r.e = 0
    · rw [if_pos h0] at h
      cases h
    · rw [if_neg h0] at h
      exact absurd h h0
  · rw [if_neg h1] at h ⊢
    exact ⟨rfl, h, by omega, by rw [if_neg (by simp [h]), if_neg h1]⟩
theorem wrap_u64n {n : Nat} (h : n ≤ maxLen) : IntKind.wrap .u64 ((n : Nat) : Int) = ((n : Nat) : Int) := wrap_u64 (by rw [maxLen_eq] at h; omega)
theorem raw1_len (r : Rd) : (r.raw 1).1.length ≤ 1 := by
  unfold Rd.raw
  split
  · simp
  · split
    · simp
    · simp [List.length_take]
      omega
def vw (i : Nat) (l : List UInt8) : Nat := if i = 0 then 0 else (l.headD 0).toNat
theorem exA (a b : AV) : aExtract 0 (.tup [a, b]) = some a ∧ aExtract 1 (.tup [a, b]) = some b := ⟨rfl, rfl⟩
theorem wrap_u64m (m : Nat) : IntKind.wrap .u64 ((m : Nat) : Int) = ((m % 18446744073709551616 : Nat) : Int) := by
  have hb : IntKind.bits .u64 = 64 := rfl
  have hs : IntKind.signed .u64 = false := rfl
  simp only [IntKind.wrap, hb, hs, Bool.false_and, Bool.false_eq_true, if_false]
  omega
theorem shl64 (T : TypeId) (a n : Nat) (k : IntKind) (hn : n ≤ 64) : aBin prog .shl T (u64 a) (.val (.int k ((n : Nat) : Int))) = some (u64 (a * 2 ^ n % 18446744073709551616)) := by
  have hb : IntKind.bits .u64 = 64 := rfl
  have h0 : ¬ ((n : Nat) : Int) < 0 := by omega
  have hm : min n 64 = n := Nat.min_eq_left hn
  have e : ((a : Nat) : Int) * 2 ^ n = ((a * 2 ^ n : Nat) : Int) := by simp
  simp only [aBin, aShift, if_neg h0, Option.map_some, Int.toNat_natCast, hb, hm, e, wrap_u64m]
theorem or64 (T : TypeId) (a b : Nat) (ha : a < 18446744073709551616) (hb : b < 18446744073709551616) : aBin prog .or T (u64 a) (u64 b) = some (u64 (a ||| b)) := by
  simp only [aBin, aInt, if_true, Option.map_some, u64_or_nat a b ha hb]
theorem and_all : ∀ n : Nat, n < 256 → bits .and .u8 (n : Int) 127 = ((n % 128 : Nat) : Int) := by decide +kernel
theorem and127 (T : TypeId) (x : UInt8) : aBin prog .and T (.val (.int .u8 ((x.toNat : Nat) : Int))) (.val (.int .u8 127)) = some (.val (.int .u8 ((x.toNat % 128 : Nat) : Int))) := by
  have h := and_all x.toNat x.toNat_lt
  simp only [aBin, aInt, if_true, Option.map_some, h]
theorem pvGo_stop {f n : Nat} {x : UInt8} {v : Nat} {r : Rd} (h : ¬ (x.toNat ≥ 128 ∧ n < 10 ∧ r.e = 0)) : pvGo f n x v r = (n, x, v, r) := by
  cases f with
  | zero => rfl
  | succ f => rw [pvGo, if_neg h]
theorem pvV_lt {n : Nat} {x : UInt8} {v : Nat} (hv : v < 18446744073709551616) : pvV n x v < 18446744073709551616 := by
  have h : x.toNat % 128 * 2 ^ (7 * n) % 18446744073709551616 < 2 ^ 64 := Nat.mod_lt _ (by decide)
  exact Nat.or_lt_two_pow (n := 64) hv h
theorem raw_len (r : Rd) (n : Nat) : (r.raw n).2.b.length ≤ r.b.length := by
  unfold Rd.raw
  split
  · exact Nat.le_refl _
  · split
    · simp
    · simp
theorem pvEnd_e {n : Nat} {x : UInt8} {v : Nat} {r : Rd} {most : Nat} (h : r.e ≠ 0) : pvEnd (n, x, v, r) most = (0, r) := by
  unfold pvEnd
  exact if_pos h
theorem pvEnd_bad {n : Nat} {x : UInt8} {v : Nat} {r : Rd} {most : Nat} (h : r.e = 0) (hb : x.toNat ≥ 128 ∨ (n = 10 ∧ x.toNat > 1) ∨ (n > 1 ∧ x.toNat = 0)) : pvEnd (n, x, v, r) most = (0, r.fail 2) := by
  unfold pvEnd Rd.fail
  rw [if_neg (by simp [h]), if_pos hb, if_pos h]
theorem pvEnd_much {n : Nat} {x : UInt8} {v : Nat} {r : Rd} {most : Nat} (h : r.e = 0) (hb : ¬ (x.toNat ≥ 128 ∨ (n = 10 ∧ x.toNat > 1) ∨ (n > 1 ∧ x.toNat = 0))) (hm : v > most) : pvEnd (n, x, v, r) most = (0, r.fail 4) := by
  unfold pvEnd Rd.fail
  rw [if_neg (by simp [h]), if_neg hb, if_pos hm, if_pos h]
theorem pvEnd_ok {n : Nat} {x : UInt8} {v : Nat} {r : Rd} {most : Nat} (h : r.e = 0) (hb : ¬ (x.toNat ≥ 128 ∨ (n = 10 ∧ x.toNat > 1) ∨ (n > 1 ∧ x.toNat = 0))) (hm : ¬ v > most) : pvEnd (n, x, v, r) most = (v, r) := by
  unfold pvEnd
  rw [if_neg (by simp [h]), if_neg hb, if_neg hm]
theorem fail_len (r : Rd) (c : Int) : (r.fail c).b.length ≤ r.b.length := by
  unfold Rd.fail
  split <;> simp
theorem var_len (r : Rd) (most : Nat) : (r.var most).2.b.length ≤ r.b.length := by
  unfold Rd.var varAt
  split
  · exact Nat.le_refl _
  · split
    · simp
    · split
      · simp
      · split
        · simp
        · simp
set_option maxRecDepth 100000 in
theorem fail_calls (σ : Sto) (o : Nat) (nl : Bool) (r : Rd) (c : Int) (hc : c ≠ 0) (hk : σ[o]? = some (RC nl r)) : ACalls prog Γ 28 [.ref o 0, i64 c] σ (fun v σ' => ∃ nl', σ' = σ.set o (RC nl' (r.fail c))) := by
  refine ACalls.of func28 rfl ?_
  simp only [ntmps28, List.length_cons, List.length_nil, Nat.reduceAdd, Nat.reduceSub, List.replicate_succ, List.replicate_zero, List.cons_append, List.nil_append]
  refine AW.regtf false 12 (.val (.bool ((r.e == 0) && (c != 0)))) (by rfl) ?_ ?_ -- region 0
  · skip
    cases h8 : ((r.e == 0))
    · skip
      simp only [go_sem, Nat.reduceAdd, Nat.reduceEqDiff, Nat.reduceLeDiff, true_and, Option.map_none, Option.map_some, RC, hk, get_set hk, List.set_set, bys_len, len_row, h8]
      try simp [upd_at, h8, Option.map_none, Option.map_some, RC, hk, get_set hk, List.set_set, bys_len, len_row]
    · skip
      simp only [go_sem, Nat.reduceAdd, Nat.reduceEqDiff, Nat.reduceLeDiff, true_and, Option.map_none, Option.map_some, RC, hk, get_set hk, List.set_set, bys_len, len_row, h8]
      try simp [upd_at, h8, Option.map_none, Option.map_some, RC, hk, get_set hk, List.set_set, bys_len, len_row]
  conv => enter [5]; simp only [List.set_cons_zero, List.set_cons_succ]
  refine AW.cond rfl (fun hc12 => ?_) (fun hc12 => ?_)
  · skip
    have h0 : r.e = 0 := by simp only [Bool.and_eq_true, beq_iff_eq] at hc12; exact hc12.1
    refine AW.lastl false [] (by rfl) fun K hK => ?_ -- region 1
    simp only [go_sem, Nat.reduceAdd, Nat.reduceEqDiff, Nat.reduceLeDiff, true_and, Option.map_none, Option.map_some, RC, hk, get_set hk, List.set_set, bys_len, len_row]
    refine hK _ _ fun env' hw => ?_
    simp only [setL_cons, setL_nil, List.set_cons_zero, List.set_cons_succ] at hw
    first
      | exact ⟨.inl rfl, .tup [], rfl, true, by rw [Rd.fail, if_pos h0]; rfl⟩
      | exact ⟨.inl rfl, .tup [], rfl, nl, by rw [Rd.fail, if_neg h0]; exact set_self' hk⟩
  · skip
    have h0 : r.e ≠ 0 := fun e => by simp [e, hc] at hc12
    refine AW.skip ?_
    first
      | exact ⟨.inl rfl, .tup [], rfl, true, by rw [Rd.fail, if_pos h0]; rfl⟩
      | exact ⟨.inl rfl, .tup [], rfl, nl, by rw [Rd.fail, if_neg h0]; exact set_self' hk⟩

set_option maxRecDepth 100000 in
theorem take_calls (σ : Sto) (o : Nat) (nl : Bool) (r : Rd) (n : Nat) (hb : r.b.length ≤ maxLen) (hk : σ[o]? = some (RC nl r)) : ACalls prog Γ 33 [.ref o 0, u64 n] σ (fun v σ' => ∃ nl' nl'' k, v = .tup [rowAV 1 nl'' (bys (r.raw n).1), bool k] ∧ σ' = σ.set o (RC nl' (r.raw n).2)) := by
  refine ACalls.of func33 rfl ?_
  simp only [ntmps33, List.length_cons, List.length_nil, Nat.reduceAdd, Nat.reduceSub, List.replicate_succ, List.replicate_zero, List.cons_append, List.nil_append]
  refine AW.regl false [4, 5] (by rfl) fun K1 hK1 => ?_ -- region 0
  simp only [go_sem, Nat.reduceAdd, Nat.reduceEqDiff, Nat.reduceLeDiff, true_and, Option.map_none, Option.map_some, RC, hk, get_set hk, List.set_set, bys_len, len_row, wrap_u64n hb]
  refine hK1 _ _ ?_; try clear hK1 K1
  conv => enter [5]; simp only [setL_cons, setL_nil, List.set_cons_zero, List.set_cons_succ]
  refine AW.mid (α := Bool × Rd) (fun z => [(.ref o 0), (u64 n), .any, .any, .any, .any, .any, .any, .any, .any, .any, .any, .any, .any, .any, .any, .any, .any, .any, .any, .any, .any, .any, .any, .any, .any, .any, .any, .any, .any, .any, .any, .any, .any, .any, .any, .any, .any]) (fun z => σ.set o (RC z.1 z.2)) (fun z => z.2 = r.ask n) ?_ ?_
  · skip
    refine AW.regl false [14] (by rfl) fun K3 hK3 => ?_ -- region 1
    simp only [go_sem, Nat.reduceAdd, Nat.reduceEqDiff, Nat.reduceLeDiff, true_and, Option.map_none, Option.map_some, RC, hk, get_set hk, List.set_set, bys_len, len_row, wrap_u64n hb]
    refine hK3 _ _ ?_; try clear hK3 K3
    conv => enter [5]; simp only [setL_cons, setL_nil, List.set_cons_zero, List.set_cons_succ]
    refine AW.cond rfl (fun hc14 => ?_) (fun hc14 => ?_)
    · skip
      have hlt : r.b.length < n := by simpa using hc14
      refine AW.lastl false [] (by rfl) fun K hK => ?_ -- region 2
      simp only [go_sem, Nat.reduceAdd, Nat.reduceEqDiff, Nat.reduceLeDiff, true_and, Option.map_none, Option.map_some, RC, hk, get_set hk, List.set_set, bys_len, len_row, wrap_u64n hb]
      refine sC.ofR en28 (fail_calls σ o nl r 1 (by decide) hk) (fun v' σ' hR => ?_)
      obtain ⟨nl2, rfl⟩ := hR
      simp only [go_sem, Nat.reduceAdd, Nat.reduceEqDiff, Nat.reduceLeDiff, true_and, Option.map_none, Option.map_some, RC, hk, get_set hk, List.set_set, bys_len, len_row, wrap_u64n hb]
      refine hK _ _ fun env' hw => ?_
      simp only [setL_cons, setL_nil, List.set_cons_zero, List.set_cons_succ] at hw
      first
        | exact ⟨(nl2, r.fail 1), (if_pos hlt).symm, (hw.trans (by simp [Wk])), rfl⟩
        | exact ⟨(nl, r), (if_neg hge).symm, (hw.trans (by simp [Wk])), set_self' hk⟩
    · skip
      have hge : ¬ r.b.length < n := by simpa using hc14
      refine AW.skip ?_
      first
        | exact ⟨(nl2, r.fail 1), (if_pos hlt).symm, (by simp [Wk]), rfl⟩
        | exact ⟨(nl, r), (if_neg hge).symm, (by simp [Wk]), set_self' hk⟩
  · skip
    rintro ⟨nl1, r1⟩ hr1
    simp only at hr1 ⊢
    refine AW.seq_k fun K4 hK4 => ?_
    refine AW.regl false [21] (by rfl) fun K5 hK5 => ?_ -- region 3
    simp only [go_sem, Nat.reduceAdd, Nat.reduceEqDiff, Nat.reduceLeDiff, true_and, Option.map_none, Option.map_some, RC, hk, get_set hk, List.set_set, bys_len, len_row, wrap_u64n hb]
    refine hK5 _ _ ?_; try clear hK5 K5
    conv => enter [5]; simp only [setL_cons, setL_nil, List.set_cons_zero, List.set_cons_succ]
    refine AW.cond rfl (fun hc21 => ?_) (fun hc21 => ?_)
    · skip
      have he : (r.ask n).e ≠ 0 := by rw [← hr1]; simpa using hc21
      refine AW.regl false [4, 5] (by rfl) fun K6 hK6 => ?_ -- region 4
      simp only [go_sem, Nat.reduceAdd, Nat.reduceEqDiff, Nat.reduceLeDiff, true_and, Option.map_none, Option.map_some, RC, hk, get_set hk, List.set_set, bys_len, len_row, wrap_u64n hb]
      refine hK6 _ _ ?_; try clear hK6 K6
      conv => enter [5]; simp only [setL_cons, setL_nil, List.set_cons_zero, List.set_cons_succ]
      exact AW.ret ⟨.inr rfl, _, rfl, nl1, true, false, by rw [ask_bad he]; rfl, by rw [ask_bad he, hr1]⟩
    · skip
      have he0 : (r.ask n).e = 0 := by rw [← hr1]; simpa using hc21
      obtain ⟨g1, g2, g3, g4⟩ := ask_ok he0
      rw [g1] at hr1
      subst hr1
      refine AW.skip ?_
      refine hK4 _ _ ?_; try clear hK4 K4
      refine AW.regl false [6] (by rfl) fun K7 hK7 => ?_ -- region 5
      simp only [go_sem, Nat.reduceAdd, Nat.reduceEqDiff, Nat.reduceLeDiff, true_and, Option.map_none, Option.map_some, RC, hk, get_set hk, List.set_set, bys_len, len_row, wrap_u64n hb, sl_hi nl1 r1.b _ g3]
      refine hK7 _ _ ?_; try clear hK7 K7
      conv => enter [5]; simp only [setL_cons, setL_nil, List.set_cons_zero, List.set_cons_succ]
      refine AW.regl false [] (by rfl) fun K8 hK8 => ?_ -- region 6
      simp only [go_sem, Nat.reduceAdd, Nat.reduceEqDiff, Nat.reduceLeDiff, true_and, Option.map_none, Option.map_some, RC, hk, get_set hk, List.set_set, bys_len, len_row, wrap_u64n hb, sl_lo nl1 r1.b _ g3]
      refine hK8 _ _ ?_; try clear hK8 K8
      conv => enter [5]; simp only [setL_cons, setL_nil, List.set_cons_zero, List.set_cons_succ, upd_none, upd_at]
      refine AW.regl false [4, 5] (by rfl) fun K9 hK9 => ?_ -- region 7
      simp only [go_sem, Nat.reduceAdd, Nat.reduceEqDiff, Nat.reduceLeDiff, true_and, Option.map_none, Option.map_some, RC, hk, get_set hk, List.set_set, bys_len, len_row, wrap_u64n hb]
      refine hK9 _ _ ?_; try clear hK9 K9
      conv => enter [5]; simp only [setL_cons, setL_nil, List.set_cons_zero, List.set_cons_succ]
      exact AW.ret ⟨.inr rfl, _, rfl, _, _, true, by rw [g4], by rw [g4, g2]⟩

set_option maxRecDepth 100000 in
theorem number_calls (σ : Sto) (o : Nat) (nl : Bool) (r : Rd) (hb : r.b.length ≤ maxLen) (hk : σ[o]? = some (RC nl r)) : ACalls prog Γ 35 [.ref o 0, u64 1] σ (fun v σ' => ∃ nl', v = u64 ((r.raw 1).1.headD 0).toNat ∧ σ' = σ.set o (RC nl' (r.raw 1).2)) := by
  refine ACalls.of func35 rfl ?_
  simp only [ntmps35, List.length_cons, List.length_nil, Nat.reduceAdd, Nat.reduceSub, List.replicate_succ, List.replicate_zero, List.cons_append, List.nil_append]
  have hl1 := raw1_len r
  refine AW.regl false [4] (by rfl) fun K1 hK1 => ?_ -- region 0
  simp only [go_sem, Nat.reduceAdd, Nat.reduceEqDiff, Nat.reduceLeDiff, true_and, Option.map_none, Option.map_some, RC, hk, get_set hk, List.set_set, bys_len, len_row, aExtract, exA]
  refine hK1 _ _ ?_; try clear hK1 K1
  conv => enter [5]; simp only [setL_cons, setL_nil, List.set_cons_zero, List.set_cons_succ]
  refine AW.regl false [5] (by rfl) fun K2 hK2 => ?_ -- region 1
  simp only [go_sem, Nat.reduceAdd, Nat.reduceEqDiff, Nat.reduceLeDiff, true_and, Option.map_none, Option.map_some, RC, hk, get_set hk, List.set_set, bys_len, len_row, aExtract, exA]
  refine sC.ofR en33 (take_calls σ o nl r 1 hb hk) (fun v' σ' hR => ?_)
  obtain ⟨nl2, nl3, k3, rfl, rfl⟩ := hR
  simp only [go_sem, Nat.reduceAdd, Nat.reduceEqDiff, Nat.reduceLeDiff, true_and, Option.map_none, Option.map_some, RC, hk, get_set hk, List.set_set, bys_len, len_row, aExtract, exA]
  refine hK2 _ _ ?_; try clear hK2 K2
  conv => enter [5]; simp only [setL_cons, setL_nil, List.set_cons_zero, List.set_cons_succ]
  refine AW.regl false [7] (by rfl) fun K3 hK3 => ?_ -- region 2
  simp only [go_sem, Nat.reduceAdd, Nat.reduceEqDiff, Nat.reduceLeDiff, true_and, Option.map_none, Option.map_some, RC, hk, get_set hk, List.set_set, bys_len, len_row, aExtract, exA]
  refine hK3 _ _ ?_; try clear hK3 K3
  conv => enter [5]; simp only [setL_cons, setL_nil, List.set_cons_zero, List.set_cons_succ]
  refine AW.seq_k fun K4 hK4 => ?_
  refine AW.regl false [16, 17, 18] (by rfl) fun K5 hK5 => ?_ -- region 3
  simp only [go_sem, Nat.reduceAdd, Nat.reduceEqDiff, Nat.reduceLeDiff, true_and, Option.map_none, Option.map_some, RC, hk, get_set hk, List.set_set, bys_len, len_row, aExtract, exA]
  refine hK5 _ _ ?_; try clear hK5 K5
  conv => enter [5]; simp only [setL_cons, setL_nil, List.set_cons_zero, List.set_cons_succ]
  refine AW.block ?_
  refine AW.loop_wk (α := Nat) (fun i => [.any, .any, .any, .any, .any, .any, .any, (u64 (vw i (r.raw 1).1)), .any, .any, .any, .any, .any, .any, .any, .any, (rowAV 1 nl3 (bys (r.raw 1).1)), (i64 ((r.raw 1).1.length : Nat)), (i64 (i : Nat)), .any, .any, .any, .any, .any, .any, .any, .any, .any, .any, .any, .any, .any]) (fun i => σ.set o (RC nl2 (r.raw 1).2)) (fun i => (r.raw 1).1.length - i) (fun i => i ≤ (r.raw 1).1.length) 0 ?_ ?_
  · exact ⟨Nat.zero_le _, by simp [Wk, vw], rfl⟩
  · intro i hi
    refine AW.regl false [19] (by rfl) fun K6 hK6 => ?_ -- region 4
    simp only [go_sem, Nat.reduceAdd, Nat.reduceEqDiff, Nat.reduceLeDiff, true_and, Option.map_none, Option.map_some, RC, hk, get_set hk, List.set_set, bys_len, len_row, aExtract, exA]
    refine hK6 _ _ ?_; try clear hK6 K6
    conv => enter [5]; simp only [setL_cons, setL_nil, List.set_cons_zero, List.set_cons_succ]
    refine AW.seq_k fun K7 hK7 => ?_
    refine AW.cond rfl (fun hc19 => ?_) (fun hc19 => ?_)
    · skip
      have hi1 : i < (r.raw 1).1.length := by simpa using hc19
      have hi0 : i = 0 := by omega
      subst hi0
      obtain ⟨y, hyy⟩ : ∃ z, (r.raw 1).1.headD 0 = z := ⟨_, rfl⟩
      have hylt := y.toNat_lt
      have hx : (bys (r.raw 1).1)[0]? = some (byteAV y) := by
        rw [← hyy]
        cases hr : (r.raw 1).1 with
        | nil => rw [hr] at hi1; simp at hi1
        | cons a l => rfl
      have hat := at_row (sz := 1) (nl := nl3) (k := .i64) hx
      have hwv : vw 1 (r.raw 1).1 = y.toNat := by rw [← hyy]; rfl
      have h1 : IntKind.wrap .u64 ((y.toNat : Nat) : Int) = (y.toNat : Nat) := by rw [wrap_u64m, Nat.mod_eq_of_lt (by omega)]
      have h2 : IntKind.wrap .i64 (8 * ((0 : Nat) : Int)) = ((0 : Nat) : Int) := by decide
      have h3 : aBin prog .shl 56 (u64 y.toNat) (.val (.int .i64 ((0 : Nat) : Int))) = some (u64 y.toNat) := by
        rw [shl64 _ _ _ _ (by decide), Nat.pow_zero, Nat.mul_one, Nat.mod_eq_of_lt (by omega)]
      have h4 : aBin prog .or 56 (u64 (vw 0 (r.raw 1).1)) (u64 y.toNat) = some (u64 y.toNat) := by
        show aBin prog .or 56 (u64 0) (u64 y.toNat) = _
        rw [or64 _ _ _ (by decide) (by omega), Nat.zero_or]
      refine AW.skip ?_
      refine hK7 _ _ ?_; try clear hK7 K7
      refine AW.seq_k fun K8 hK8 => ?_
      refine AW.block ?_
      refine AW.regl false [8, 9] (by rfl) fun K9 hK9 => ?_ -- region 5
      simp only [go_sem, Nat.reduceAdd, Nat.reduceEqDiff, Nat.reduceLeDiff, true_and, Option.map_none, Option.map_some, RC, hk, get_set hk, List.set_set, bys_len, len_row, aExtract, exA, hat]
      refine hK9 _ _ ?_; try clear hK9 K9
      conv => enter [5]; simp only [setL_cons, setL_nil, List.set_cons_zero, List.set_cons_succ]
      refine AW.lastl false [7] (by rfl) fun K hK => ?_ -- region 6
      simp only [go_sem, Nat.reduceAdd, Nat.reduceEqDiff, Nat.reduceLeDiff, true_and, Option.map_none, Option.map_some, RC, hk, get_set hk, List.set_set, bys_len, len_row, aExtract, exA, byteAV, h1, h2, h3, h4]
      refine hK _ _ fun env' hw => ?_
      simp only [setL_cons, setL_nil, List.set_cons_zero, List.set_cons_succ] at hw
      refine hK8 _ _ (AW.weaken hw ?_); clear hw; try clear hK8 K8
      refine AW.lastl false [18] (by rfl) fun K hK => ?_ -- region 7
      simp only [go_sem, Nat.reduceAdd, Nat.reduceEqDiff, Nat.reduceLeDiff, true_and, Option.map_none, Option.map_some, RC, hk, get_set hk, List.set_set, bys_len, len_row, aExtract, exA]
      refine hK _ _ fun env' hw => ?_
      simp only [setL_cons, setL_nil, List.set_cons_zero, List.set_cons_succ] at hw
      refine ⟨0 + 1, by omega, by omega, ?_, rfl⟩
      refine hw.trans ?_
      simp [Wk, hwv]
      try rfl
    · skip
      have hi1 : i = (r.raw 1).1.length := by
        have : ¬ i < (r.raw 1).1.length := by simpa using hc19
        omega
      have hvv : vw i (r.raw 1).1 = ((r.raw 1).1.headD 0).toNat := by
        unfold vw
        split
        · rename_i h0
          have hn : (r.raw 1).1 = [] := List.eq_nil_of_length_eq_zero (by omega)
          rw [hn]
          rfl
        · rfl
      refine AW.exit ?_
      refine hK4 _ _ ?_; try clear hK4 K4
      refine AW.regl false [4] (by rfl) fun K10 hK10 => ?_ -- region 8
      simp only [go_sem, Nat.reduceAdd, Nat.reduceEqDiff, Nat.reduceLeDiff, true_and, Option.map_none, Option.map_some, RC, hk, get_set hk, List.set_set, bys_len, len_row, aExtract, exA]
      refine hK10 _ _ ?_; try clear hK10 K10
      conv => enter [5]; simp only [setL_cons, setL_nil, List.set_cons_zero, List.set_cons_succ]
      exact AW.ret ⟨.inr rfl, _, rfl, nl2, by rw [hvv], rfl⟩

set_option maxRecDepth 100000 in
theorem byte_calls (σ : Sto) (o : Nat) (nl : Bool) (r : Rd) (hb : r.b.length ≤ maxLen) (hk : σ[o]? = some (RC nl r)) : ACalls prog Γ 32 [.ref o 0] σ (fun v σ' => ∃ nl', v = byteAV ((r.raw 1).1.headD 0) ∧ σ' = σ.set o (RC nl' (r.raw 1).2)) := by
  refine ACalls.of func32 rfl ?_
  simp only [ntmps32, List.length_cons, List.length_nil, Nat.reduceAdd, Nat.reduceSub, List.replicate_succ, List.replicate_zero, List.cons_append, List.nil_append]
  have hw8 : IntKind.wrap .u8 ((((r.raw 1).1.headD 0).toNat : Nat) : Int) = ((((r.raw 1).1.headD 0).toNat : Nat) : Int) := by
    rw [wrap_u8]
    simp
  refine AW.regl false [2] (by rfl) fun K1 hK1 => ?_ -- region 0
  simp only [go_sem, Nat.reduceAdd, Nat.reduceEqDiff, Nat.reduceLeDiff, true_and, Option.map_none, Option.map_some, RC, hk, get_set hk, List.set_set, bys_len, len_row, byteAV, hw8]
  refine hK1 _ _ ?_; try clear hK1 K1
  conv => enter [5]; simp only [setL_cons, setL_nil, List.set_cons_zero, List.set_cons_succ]
  refine AW.regl false [2] (by rfl) fun K2 hK2 => ?_ -- region 1
  simp only [go_sem, Nat.reduceAdd, Nat.reduceEqDiff, Nat.reduceLeDiff, true_and, Option.map_none, Option.map_some, RC, hk, get_set hk, List.set_set, bys_len, len_row, byteAV, hw8]
  refine sC.ofR en35 (number_calls σ o nl r hb hk) (fun v' σ' hR => ?_)
  obtain ⟨nl2, rfl, rfl⟩ := hR
  simp only [go_sem, Nat.reduceAdd, Nat.reduceEqDiff, Nat.reduceLeDiff, true_and, Option.map_none, Option.map_some, RC, hk, get_set hk, List.set_set, bys_len, len_row, byteAV, hw8]
  refine hK2 _ _ ?_; try clear hK2 K2
  conv => enter [5]; simp only [setL_cons, setL_nil, List.set_cons_zero, List.set_cons_succ]
  exact AW.ret ⟨.inr rfl, _, rfl, nl2, rfl, rfl⟩

set_option maxRecDepth 100000 in
set_option maxHeartbeats 1000000 in
theorem var_calls (σ : Sto) (o : Nat) (nl : Bool) (r : Rd) (most : Nat) (hb : r.b.length ≤ maxLen) (hk : σ[o]? = some (RC nl r)) : ACalls prog Γ 26 [.ref o 0, u64 most] σ (fun v σ' => ∃ nl', v = u64 (r.var most).1 ∧ σ' = σ.set o (RC nl' (r.var most).2)) := by
  refine ACalls.of func26 rfl ?_
  simp only [ntmps26, List.length_cons, List.length_nil, Nat.reduceAdd, Nat.reduceSub, List.replicate_succ, List.replicate_zero, List.cons_append, List.nil_append]
  refine AW.regl false [4] (by rfl) fun K1 hK1 => ?_ -- region 0
  simp only [go_sem, Nat.reduceAdd, Nat.reduceEqDiff, Nat.reduceLeDiff, true_and, Option.map_none, Option.map_some, RC, hk, get_set hk, List.set_set, bys_len, len_row]
  refine hK1 _ _ ?_; try clear hK1 K1
  conv => enter [5]; simp only [setL_cons, setL_nil, List.set_cons_zero, List.set_cons_succ]
  refine AW.regl false [5] (by rfl) fun K2 hK2 => ?_ -- region 1
  simp only [go_sem, Nat.reduceAdd, Nat.reduceEqDiff, Nat.reduceLeDiff, true_and, Option.map_none, Option.map_some, RC, hk, get_set hk, List.set_set, bys_len, len_row]
  refine hK2 _ _ ?_; try clear hK2 K2
  conv => enter [5]; simp only [setL_cons, setL_nil, List.set_cons_zero, List.set_cons_succ]
  refine AW.regl false [6] (by rfl) fun K3 hK3 => ?_ -- region 2
  simp only [go_sem, Nat.reduceAdd, Nat.reduceEqDiff, Nat.reduceLeDiff, true_and, Option.map_none, Option.map_some, RC, hk, get_set hk, List.set_set, bys_len, len_row]
  refine hK3 _ _ ?_; try clear hK3 K3
  conv => enter [5]; simp only [setL_cons, setL_nil, List.set_cons_zero, List.set_cons_succ]
  refine AW.regl false [7] (by rfl) fun K4 hK4 => ?_ -- region 3
  simp only [go_sem, Nat.reduceAdd, Nat.reduceEqDiff, Nat.reduceLeDiff, true_and, Option.map_none, Option.map_some, RC, hk, get_set hk, List.set_set, bys_len, len_row]
  refine hK4 _ _ ?_; try clear hK4 K4
  conv => enter [5]; simp only [setL_cons, setL_nil, List.set_cons_zero, List.set_cons_succ]
  refine AW.seq_k fun K5 hK5 => ?_
  refine AW.block ?_
  refine AW.loop_wk (α := Nat × Nat × UInt8 × Nat × Bool × Rd) (fun z => [(.ref o 0), (u64 most), .any, .any, .any, (u64 z.2.2.2.1), (.val (.int .u8 ((z.2.2.1.toNat : Nat) : Int))), (i64 (z.2.1 : Nat)), .any, .any, .any, .any, .any, .any, .any, .any, .any, .any, .any, .any, .any, .any, .any, .any, .any, .any, .any, .any, .any, .any, .any, .any, .any, .any, .any, .any, .any, .any, .any, .any, .any, .any, .any, .any, .any, .any, .any, .any, .any, .any, .any, .any, .any, .any, .any, .any, .any, .any, .any, .any, .any, .any, .any, .any, .any, .any, .any]) (fun z => σ.set o (RC z.2.2.2.2.1 z.2.2.2.2.2)) (fun z => z.1) (fun z => z.1 + z.2.1 = 11 ∧ z.2.2.2.1 < 18446744073709551616 ∧ z.2.2.2.2.2.b.length ≤ maxLen ∧ pvGo z.1 z.2.1 z.2.2.1 z.2.2.2.1 z.2.2.2.2.2 = pvGo 11 0 128 0 r) (11, 0, 128, 0, nl, r) ?_ ?_
  · exact ⟨⟨rfl, by show (0 : Nat) < 18446744073709551616; decide, hb, rfl⟩, by simp [Wk], (set_self' hk).symm⟩
  · rintro ⟨f, n, x, v0, nl1, r1⟩ ⟨hfn, hv0, hb1, hgo⟩
    simp only at hfn hv0 hb1 hgo ⊢
    refine AW.seq_k fun K6 hK6 => ?_
    refine AW.regtf false 20 (.val (.bool (((decide (((x.toNat : Nat) : Int) ≥ 128)) && (decide (((n : Nat) : Int) < 10))) && (r1.e == 0)))) (by rfl) ?_ ?_ -- region 4
    · skip
      cases h9 : ((decide (((x.toNat : Nat) : Int) ≥ 128)))
      · skip
        simp only [go_sem, Nat.reduceAdd, Nat.reduceEqDiff, Nat.reduceLeDiff, true_and, Option.map_none, Option.map_some, RC, hk, get_set hk, List.set_set, bys_len, len_row, h9]
        try simp [upd_at, h9, Option.map_none, Option.map_some, RC, hk, get_set hk, List.set_set, bys_len, len_row]
      · skip
        cases h12 : ((decide (((n : Nat) : Int) < 10)))
        · skip
          simp only [go_sem, Nat.reduceAdd, Nat.reduceEqDiff, Nat.reduceLeDiff, true_and, Option.map_none, Option.map_some, RC, hk, get_set hk, List.set_set, bys_len, len_row, h9, h12]
          try simp [upd_at, h9, h12, Option.map_none, Option.map_some, RC, hk, get_set hk, List.set_set, bys_len, len_row]
        · skip
          simp only [go_sem, Nat.reduceAdd, Nat.reduceEqDiff, Nat.reduceLeDiff, true_and, Option.map_none, Option.map_some, RC, hk, get_set hk, List.set_set, bys_len, len_row, h9, h12]
          try simp [upd_at, h9, h12, Option.map_none, Option.map_some, RC, hk, get_set hk, List.set_set, bys_len, len_row]
    conv => enter [5]; simp only [List.set_cons_zero, List.set_cons_succ]
    refine AW.cond rfl (fun hc20 => ?_) (fun hc20 => ?_)
    · skip
      have hcc : x.toNat ≥ 128 ∧ n < 10 ∧ r1.e = 0 := by
        simp only [Bool.and_eq_true, decide_eq_true_eq, beq_iff_eq] at hc20
        exact ⟨by omega, by omega, hc20.2⟩
      obtain ⟨f0, rfl⟩ : ∃ f0, f = f0 + 1 := ⟨f - 1, by omega⟩
      obtain ⟨x1, hx1⟩ : ∃ z, (r1.raw 1).1.headD 0 = z := ⟨_, rfl⟩
      have hxl := x1.toNat_lt
      have h7 : IntKind.wrap .i64 (7 * ((n : Nat) : Int)) = ((7 * n : Nat) : Int) := wrap_i64 (by omega) (by omega)
      have hcv : IntKind.wrap .u64 ((x1.toNat % 128 : Nat) : Int) = ((x1.toNat % 128 : Nat) : Int) := by rw [wrap_u64m, Nat.mod_eq_of_lt (by omega)]
      have hsh := shl64 56 (x1.toNat % 128) (7 * n) .i64 (by omega)
      have hor : aBin prog .or 56 (u64 v0) (u64 (x1.toNat % 128 * 2 ^ (7 * n) % 18446744073709551616)) = some (u64 (pvV n x1 v0)) := or64 _ _ _ hv0 (Nat.mod_lt _ (by decide))
      refine AW.skip ?_
      refine hK6 _ _ ?_; try clear hK6 K6
      refine AW.block ?_
      refine AW.regl false [6] (by rfl) fun K8 hK8 => ?_ -- region 5
      simp only [go_sem, Nat.reduceAdd, Nat.reduceEqDiff, Nat.reduceLeDiff, true_and, Option.map_none, Option.map_some, RC, hk, get_set hk, List.set_set, bys_len, len_row, hx1]
      refine sC.ofR en32 (byte_calls (σ.set o (RC nl1 r1)) o nl1 r1 hb1 (get_set hk)) (fun v' σ' hR => ?_)
      obtain ⟨nl2, rfl, rfl⟩ := hR
      simp only [go_sem, Nat.reduceAdd, Nat.reduceEqDiff, Nat.reduceLeDiff, true_and, Option.map_none, Option.map_some, RC, hk, get_set hk, List.set_set, bys_len, len_row, hx1]
      refine hK8 _ _ ?_; try clear hK8 K8
      conv => enter [5]; simp only [setL_cons, setL_nil, List.set_cons_zero, List.set_cons_succ]
      refine AW.regl false [5] (by rfl) fun K9 hK9 => ?_ -- region 6
      simp only [go_sem, Nat.reduceAdd, Nat.reduceEqDiff, Nat.reduceLeDiff, true_and, Option.map_none, Option.map_some, RC, hk, get_set hk, List.set_set, bys_len, len_row, byteAV, and127, hcv, h7, hsh, hor]
      refine hK9 _ _ ?_; try clear hK9 K9
      conv => enter [5]; simp only [setL_cons, setL_nil, List.set_cons_zero, List.set_cons_succ]
      refine AW.lastl false [7] (by rfl) fun K hK => ?_ -- region 7
      simp only [go_sem, Nat.reduceAdd, Nat.reduceEqDiff, Nat.reduceLeDiff, true_and, Option.map_none, Option.map_some, RC, hk, get_set hk, List.set_set, bys_len, len_row]
      refine hK _ _ fun env' hw => ?_
      simp only [setL_cons, setL_nil, List.set_cons_zero, List.set_cons_succ] at hw
      refine ⟨(f0, n + 1, x1, pvV n x1 v0, nl2, (r1.raw 1).2), by simp only; omega, ⟨by simp only; omega, pvV_lt hv0, Nat.le_trans (raw_len _ _) hb1, ?_⟩, ?_, rfl⟩
      · rw [← hgo, pvGo, if_pos hcc, hx1]
      · refine hw.trans ?_
        simp [Wk, wrap_add1 (a := n) (by omega), byteAV]
    · skip
      have hstop : ¬ (x.toNat ≥ 128 ∧ n < 10 ∧ r1.e = 0) := fun h => by
        simp only [Bool.and_eq_false_iff, decide_eq_false_iff_not, beq_eq_false_iff_ne, ne_eq] at hc20
        rcases hc20 with (h1 | h1) | h1
        · omega
        · omega
        · exact h1 h.2.2
      have hfin : pvEnd (n, x, v0, r1) most = r.var most := by rw [← var_pv, ← hgo, pvGo_stop hstop]
      refine AW.exit ?_
      refine hK5 _ _ ?_; try clear hK5 K5
      refine AW.seq_k fun K10 hK10 => ?_
      refine AW.block ?_
      refine AW.regl false [33] (by rfl) fun K11 hK11 => ?_ -- region 8
      simp only [go_sem, Nat.reduceAdd, Nat.reduceEqDiff, Nat.reduceLeDiff, true_and, Option.map_none, Option.map_some, RC, hk, get_set hk, List.set_set, bys_len, len_row]
      refine hK11 _ _ ?_; try clear hK11 K11
      conv => enter [5]; simp only [setL_cons, setL_nil, List.set_cons_zero, List.set_cons_succ]
      refine AW.cond rfl (fun hc33 => ?_) (fun hc33 => ?_)
      · skip
        have he : r1.e ≠ 0 := by simpa using hc33
        refine AW.regl false [4] (by rfl) fun K12 hK12 => ?_ -- region 9
        simp only [go_sem, Nat.reduceAdd, Nat.reduceEqDiff, Nat.reduceLeDiff, true_and, Option.map_none, Option.map_some, RC, hk, get_set hk, List.set_set, bys_len, len_row]
        refine hK12 _ _ ?_; try clear hK12 K12
        conv => enter [5]; simp only [setL_cons, setL_nil, List.set_cons_zero, List.set_cons_succ]
        exact AW.ret ⟨.inr rfl, _, rfl, nl1, by rw [← hfin, pvEnd_e he]; first | done | rfl, by rw [← hfin, pvEnd_e he]⟩
      · skip
        have he : r1.e = 0 := by simpa using hc33
        refine AW.regtf false 39 (.val (.bool (((decide (((x.toNat : Nat) : Int) ≥ 128)) || ((((n : Nat) : Int) == 10) && (decide (((x.toNat : Nat) : Int) > 1)))) || ((decide (((n : Nat) : Int) > 1)) && (((x.toNat : Nat) : Int) == 0))))) (by rfl) ?_ ?_ -- region 10
        · skip
          cases h41 : ((decide (((x.toNat : Nat) : Int) ≥ 128)))
          · skip
            cases h44 : ((((n : Nat) : Int) == 10))
            · skip
              cases h52 : ((decide (((n : Nat) : Int) > 1)))
              · skip
                simp only [go_sem, Nat.reduceAdd, Nat.reduceEqDiff, Nat.reduceLeDiff, true_and, Option.map_none, Option.map_some, RC, hk, get_set hk, List.set_set, bys_len, len_row, h41, h44, h52]
                try simp [upd_at, h41, h44, h52, Option.map_none, Option.map_some, RC, hk, get_set hk, List.set_set, bys_len, len_row]
              · skip
                simp only [go_sem, Nat.reduceAdd, Nat.reduceEqDiff, Nat.reduceLeDiff, true_and, Option.map_none, Option.map_some, RC, hk, get_set hk, List.set_set, bys_len, len_row, h41, h44, h52]
                try simp [upd_at, h41, h44, h52, Option.map_none, Option.map_some, RC, hk, get_set hk, List.set_set, bys_len, len_row]
            · skip
              cases h47 : ((decide (((x.toNat : Nat) : Int) > 1)))
              · skip
                cases h52 : ((decide (((n : Nat) : Int) > 1)))
                · skip
                  simp only [go_sem, Nat.reduceAdd, Nat.reduceEqDiff, Nat.reduceLeDiff, true_and, Option.map_none, Option.map_some, RC, hk, get_set hk, List.set_set, bys_len, len_row, h41, h44, h47, h52]
                  try simp [upd_at, h41, h44, h47, h52, Option.map_none, Option.map_some, RC, hk, get_set hk, List.set_set, bys_len, len_row]
                · skip
                  simp only [go_sem, Nat.reduceAdd, Nat.reduceEqDiff, Nat.reduceLeDiff, true_and, Option.map_none, Option.map_some, RC, hk, get_set hk, List.set_set, bys_len, len_row, h41, h44, h47, h52]
                  try simp [upd_at, h41, h44, h47, h52, Option.map_none, Option.map_some, RC, hk, get_set hk, List.set_set, bys_len, len_row]
              · skip
                simp only [go_sem, Nat.reduceAdd, Nat.reduceEqDiff, Nat.reduceLeDiff, true_and, Option.map_none, Option.map_some, RC, hk, get_set hk, List.set_set, bys_len, len_row, h41, h44, h47]
                try simp [upd_at, h41, h44, h47, Option.map_none, Option.map_some, RC, hk, get_set hk, List.set_set, bys_len, len_row]
          · skip
            simp only [go_sem, Nat.reduceAdd, Nat.reduceEqDiff, Nat.reduceLeDiff, true_and, Option.map_none, Option.map_some, RC, hk, get_set hk, List.set_set, bys_len, len_row, h41]
            try simp [upd_at, h41, Option.map_none, Option.map_some, RC, hk, get_set hk, List.set_set, bys_len, len_row]
        conv => enter [5]; simp only [List.set_cons_zero, List.set_cons_succ]
        refine AW.cond rfl (fun hc39 => ?_) (fun hc39 => ?_)
        · skip
          have hbad : x.toNat ≥ 128 ∨ (n = 10 ∧ x.toNat > 1) ∨ (n > 1 ∧ x.toNat = 0) := by
            simp at hc39
            omega
          refine AW.regl false [] (by rfl) fun K14 hK14 => ?_ -- region 11
          simp only [go_sem, Nat.reduceAdd, Nat.reduceEqDiff, Nat.reduceLeDiff, true_and, Option.map_none, Option.map_some, RC, hk, get_set hk, List.set_set, bys_len, len_row]
          refine sC.ofR en28 (fail_calls (σ.set o (RC nl1 r1)) o nl1 r1 2 (by decide) (get_set hk)) (fun v' σ' hR => ?_)
          obtain ⟨nl2, rfl⟩ := hR
          simp only [go_sem, Nat.reduceAdd, Nat.reduceEqDiff, Nat.reduceLeDiff, true_and, Option.map_none, Option.map_some, RC, hk, get_set hk, List.set_set, bys_len, len_row]
          refine hK14 _ _ ?_; try clear hK14 K14
          conv => enter [5]; simp only [setL_cons, setL_nil, List.set_cons_zero, List.set_cons_succ]
          refine AW.regl false [4] (by rfl) fun K15 hK15 => ?_ -- region 12
          simp only [go_sem, Nat.reduceAdd, Nat.reduceEqDiff, Nat.reduceLeDiff, true_and, Option.map_none, Option.map_some, RC, hk, get_set hk, List.set_set, bys_len, len_row]
          refine hK15 _ _ ?_; try clear hK15 K15
          conv => enter [5]; simp only [setL_cons, setL_nil, List.set_cons_zero, List.set_cons_succ]
          exact AW.ret ⟨.inr rfl, _, rfl, nl2, by rw [← hfin, pvEnd_bad he hbad]; first | done | rfl, by rw [← hfin, pvEnd_bad he hbad]⟩
        · skip
          have hbad : ¬ (x.toNat ≥ 128 ∨ (n = 10 ∧ x.toNat > 1) ∨ (n > 1 ∧ x.toNat = 0)) := by
            simp at hc39
            omega
          refine AW.regl false [60] (by rfl) fun K16 hK16 => ?_ -- region 13
          simp only [go_sem, Nat.reduceAdd, Nat.reduceEqDiff, Nat.reduceLeDiff, true_and, Option.map_none, Option.map_some, RC, hk, get_set hk, List.set_set, bys_len, len_row]
          refine hK16 _ _ ?_; try clear hK16 K16
          conv => enter [5]; simp only [setL_cons, setL_nil, List.set_cons_zero, List.set_cons_succ]
          refine AW.cond rfl (fun hc60 => ?_) (fun hc60 => ?_)
          · skip
            have hm : v0 > most := by simp at hc60; omega
            refine AW.regl false [] (by rfl) fun K17 hK17 => ?_ -- region 14
            simp only [go_sem, Nat.reduceAdd, Nat.reduceEqDiff, Nat.reduceLeDiff, true_and, Option.map_none, Option.map_some, RC, hk, get_set hk, List.set_set, bys_len, len_row]
            refine sC.ofR en28 (fail_calls (σ.set o (RC nl1 r1)) o nl1 r1 4 (by decide) (get_set hk)) (fun v' σ' hR => ?_)
            obtain ⟨nl2, rfl⟩ := hR
            simp only [go_sem, Nat.reduceAdd, Nat.reduceEqDiff, Nat.reduceLeDiff, true_and, Option.map_none, Option.map_some, RC, hk, get_set hk, List.set_set, bys_len, len_row]
            refine hK17 _ _ ?_; try clear hK17 K17
            conv => enter [5]; simp only [setL_cons, setL_nil, List.set_cons_zero, List.set_cons_succ]
            refine AW.regl false [4] (by rfl) fun K18 hK18 => ?_ -- region 15
            simp only [go_sem, Nat.reduceAdd, Nat.reduceEqDiff, Nat.reduceLeDiff, true_and, Option.map_none, Option.map_some, RC, hk, get_set hk, List.set_set, bys_len, len_row]
            refine hK18 _ _ ?_; try clear hK18 K18
            conv => enter [5]; simp only [setL_cons, setL_nil, List.set_cons_zero, List.set_cons_succ]
            exact AW.ret ⟨.inr rfl, _, rfl, nl2, by rw [← hfin, pvEnd_much he hbad hm]; first | done | rfl, by rw [← hfin, pvEnd_much he hbad hm]⟩
          · skip
            have hm : ¬ v0 > most := by simp at hc60; omega
            refine AW.skip ?_
            refine hK10 _ _ ?_; try clear hK10 K10
            refine AW.regl false [4] (by rfl) fun K19 hK19 => ?_ -- region 16
            simp only [go_sem, Nat.reduceAdd, Nat.reduceEqDiff, Nat.reduceLeDiff, true_and, Option.map_none, Option.map_some, RC, hk, get_set hk, List.set_set, bys_len, len_row]
            refine hK19 _ _ ?_; try clear hK19 K19
            conv => enter [5]; simp only [setL_cons, setL_nil, List.set_cons_zero, List.set_cons_succ]
            exact AW.ret ⟨.inr rfl, _, rfl, nl1, by rw [← hfin, pvEnd_ok he hbad hm]; first | done | rfl, by rw [← hfin, pvEnd_ok he hbad hm]⟩

set_option maxRecDepth 100000 in
theorem text_calls (σ : Sto) (o : Nat) (nl : Bool) (r : Rd) (most : Nat) (hb : r.b.length ≤ maxLen) (hk : σ[o]? = some (RC nl r)) : ACalls prog Γ 27 [.ref o 0, u64 most] σ (fun v σ' => ∃ nl', v = str (r.text most).1 ∧ σ' = σ.set o (RC nl' (r.text most).2)) := by
  refine ACalls.of func27 rfl ?_
  simp only [ntmps27, List.length_cons, List.length_nil, Nat.reduceAdd, Nat.reduceSub, List.replicate_succ, List.replicate_zero, List.cons_append, List.nil_append]
  have hv := var_len r most
  refine AW.regl false [4] (by rfl) fun K1 hK1 => ?_ -- region 0
  simp only [go_sem, Nat.reduceAdd, Nat.reduceEqDiff, Nat.reduceLeDiff, true_and, Option.map_none, Option.map_some, RC, hk, get_set hk, List.set_set, bys_len, len_row, exA, conv_row]
  refine hK1 _ _ ?_; try clear hK1 K1
  conv => enter [5]; simp only [setL_cons, setL_nil, List.set_cons_zero, List.set_cons_succ]
  refine AW.regl false [5] (by rfl) fun K2 hK2 => ?_ -- region 1
  simp only [go_sem, Nat.reduceAdd, Nat.reduceEqDiff, Nat.reduceLeDiff, true_and, Option.map_none, Option.map_some, RC, hk, get_set hk, List.set_set, bys_len, len_row, exA, conv_row]
  refine sC.ofR en26 (var_calls σ o nl r most hb hk) (fun v' σ' hR => ?_)
  obtain ⟨nl2, rfl, rfl⟩ := hR
  simp only [go_sem, Nat.reduceAdd, Nat.reduceEqDiff, Nat.reduceLeDiff, true_and, Option.map_none, Option.map_some, RC, hk, get_set hk, List.set_set, bys_len, len_row, exA, conv_row]
  refine sC.ofR en33 (take_calls (σ.set o (RC nl2 (r.var most).2)) o nl2 (r.var most).2 (r.var most).1 (Nat.le_trans hv hb) (get_set hk)) (fun v' σ' hR => ?_)
  obtain ⟨nl3, nl4, k4, rfl, rfl⟩ := hR
  simp only [go_sem, Nat.reduceAdd, Nat.reduceEqDiff, Nat.reduceLeDiff, true_and, Option.map_none, Option.map_some, RC, hk, get_set hk, List.set_set, bys_len, len_row, exA, conv_row]
  refine hK2 _ _ ?_; try clear hK2 K2
  conv => enter [5]; simp only [setL_cons, setL_nil, List.set_cons_zero, List.set_cons_succ]
  refine AW.regl false [4] (by rfl) fun K3 hK3 => ?_ -- region 2
  simp only [go_sem, Nat.reduceAdd, Nat.reduceEqDiff, Nat.reduceLeDiff, true_and, Option.map_none, Option.map_some, RC, hk, get_set hk, List.set_set, bys_len, len_row, exA, conv_row]
  refine hK3 _ _ ?_; try clear hK3 K3
  conv => enter [5]; simp only [setL_cons, setL_nil, List.set_cons_zero, List.set_cons_succ]
  exact AW.ret ⟨.inr rfl, _, rfl, nl3, rfl, rfl⟩

set_option maxRecDepth 100000 in
theorem err_calls (σ : Sto) (o : Nat) (nl : Bool) (r : Rd) (hk : σ[o]? = some (RC nl r)) : ACalls prog Γ 17 [.ref o 0] σ (fun v σ' => v = i64 r.e ∧ σ' = σ) := by
  refine ACalls.of func17 rfl ?_
  simp only [ntmps17, List.length_cons, List.length_nil, Nat.reduceAdd, Nat.reduceSub, List.replicate_succ, List.replicate_zero, List.cons_append, List.nil_append]
  refine AW.regl false [2] (by rfl) fun K1 hK1 => ?_ -- region 0
  simp only [go_sem, Nat.reduceAdd, Nat.reduceEqDiff, Nat.reduceLeDiff, true_and, Option.map_none, Option.map_some, RC, hk, get_set hk, List.set_set, bys_len, len_row]
  refine hK1 _ _ ?_; try clear hK1 K1
  conv => enter [5]; simp only [setL_cons, setL_nil, List.set_cons_zero, List.set_cons_succ]
  refine AW.regl false [2] (by rfl) fun K2 hK2 => ?_ -- region 1
  simp only [go_sem, Nat.reduceAdd, Nat.reduceEqDiff, Nat.reduceLeDiff, true_and, Option.map_none, Option.map_some, RC, hk, get_set hk, List.set_set, bys_len, len_row]
  refine hK2 _ _ ?_; try clear hK2 K2
  conv => enter [5]; simp only [setL_cons, setL_nil, List.set_cons_zero, List.set_cons_succ]
  exact AW.ret ⟨.inr rfl, _, rfl, rfl, rfl⟩

set_option maxRecDepth 100000 in
theorem left_calls (σ : Sto) (o : Nat) (nl : Bool) (r : Rd) (hk : σ[o]? = some (RC nl r)) : ACalls prog Γ 18 [.ref o 0] σ (fun v σ' => v = i64 r.b.length ∧ σ' = σ) := by
  refine ACalls.of func18 rfl ?_
  simp only [ntmps18, List.length_cons, List.length_nil, Nat.reduceAdd, Nat.reduceSub, List.replicate_succ, List.replicate_zero, List.cons_append, List.nil_append]
  refine AW.regl false [2] (by rfl) fun K1 hK1 => ?_ -- region 0
  simp only [go_sem, Nat.reduceAdd, Nat.reduceEqDiff, Nat.reduceLeDiff, true_and, Option.map_none, Option.map_some, RC, hk, get_set hk, List.set_set, bys_len, len_row]
  refine hK1 _ _ ?_; try clear hK1 K1
  conv => enter [5]; simp only [setL_cons, setL_nil, List.set_cons_zero, List.set_cons_succ]
  refine AW.regl false [2] (by rfl) fun K2 hK2 => ?_ -- region 1
  simp only [go_sem, Nat.reduceAdd, Nat.reduceEqDiff, Nat.reduceLeDiff, true_and, Option.map_none, Option.map_some, RC, hk, get_set hk, List.set_set, bys_len, len_row]
  refine hK2 _ _ ?_; try clear hK2 K2
  conv => enter [5]; simp only [setL_cons, setL_nil, List.set_cons_zero, List.set_cons_succ]
  exact AW.ret ⟨.inr rfl, _, rfl, rfl, rfl⟩

set_option maxRecDepth 100000 in
theorem read_calls (σ : Sto) (nl : Bool) (b : List UInt8) : ACalls prog Γ 14 [rowAV 1 nl (bys b)] σ (fun v σ' => v = .ref σ.length 0 ∧ σ' = σ ++ [RC nl ⟨b, 0⟩]) := by
  refine ACalls.of func14 rfl ?_
  simp only [ntmps14, List.length_cons, List.length_nil, Nat.reduceAdd, Nat.reduceSub, List.replicate_succ, List.replicate_zero, List.cons_append, List.nil_append]
  refine AW.regl false [2] (by rfl) fun K1 hK1 => ?_ -- region 0
  simp only [go_sem, Nat.reduceAdd, Nat.reduceEqDiff, Nat.reduceLeDiff, true_and, one_row]
  refine hK1 _ _ ?_; try clear hK1 K1
  conv => enter [5]; simp only [setL_cons, setL_nil, List.set_cons_zero, List.set_cons_succ]
  refine AW.regl false [2] (by rfl) fun K2 hK2 => ?_ -- region 1
  simp only [go_sem, Nat.reduceAdd, Nat.reduceEqDiff, Nat.reduceLeDiff, true_and, one_row]
  refine hK2 _ _ ?_; try clear hK2 K2
  conv => enter [5]; simp only [setL_cons, setL_nil, List.set_cons_zero, List.set_cons_succ]
  exact AW.ret ⟨.inr rfl, _, rfl, rfl, rfl⟩
end Go.Proofs.Try

