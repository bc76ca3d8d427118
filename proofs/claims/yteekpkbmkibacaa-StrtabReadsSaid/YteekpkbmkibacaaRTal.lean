import Derived.Test.YteekpkbmkibacaaRTak
/-! Readers of the document: what the functions come to. -/
namespace Go.Proofs.Try
set_option linter.unusedSimpArgs false
set_option linter.unusedVariables false
open Go Go.Proofs.Ev
variable {Γ : List (Nat × List AV)}
abbrev RS (r : Rd) : AO := .cells [str (bs r.b), i64 r.e]
theorem bs_extract (l : List UInt8) (i j : Nat) : (bs l).extract i j = bs ((l.take j).drop i) := by
  apply ByteArray.ext
  rw [ByteArray.data_extract]
  apply Array.ext'
  simp [bs, List.drop_take]
theorem sls_hi (b : List UInt8) (k : IntKind) {n : Nat} (h : n ≤ b.length) : aSlice prog 9 (str (bs b)) none (some (.val (.int k (n : Nat)))) = some (str (bs (b.take n))) := by
  have hu : prog.underlying 9 = some .string := by kernel_rfl
  simp only [aSlice, hu, aSliceBound, bs_size]
  rw [if_pos ⟨by omega, by omega⟩]
  simp [bs_extract]
theorem sls_lo (b : List UInt8) (k : IntKind) {n : Nat} (h : n ≤ b.length) : aSlice prog 9 (str (bs b)) (some (.val (.int k (n : Nat)))) none = some (str (bs (b.drop n))) := by
  have hu : prog.underlying 9 = some .string := by kernel_rfl
  simp only [aSlice, hu, aSliceBound, bs_size]
  rw [if_pos ⟨by omega, by omega⟩]
  simp [bs_extract]
theorem idxB (b : List UInt8) (k : IntKind) {i : Nat} (h : i < b.length) : aIndex prog 9 (str (bs b)) (.val (.int k (i : Nat))) = some (byteAV (b.getD i 0)) := by
  rw [index_str (by kernel_rfl) (bs b) k i (by rw [bs_size]; exact h)]
  simp [byteAV, bs, ByteArray.getElem_eq_getElem_data, List.getD_eq_getElem?_getD, h]
theorem rd_self {σ : Sto} {o : Nat} {r : Rd} (hk : σ[o]? = some (RS r)) : σ.set o (RS r) = σ := (set_self' hk).symm
theorem cnt_stop {f : Nat} {b : List UInt8} (h : f = 0 ∨ b = [] ∨ (b.getD 0 0).toNat < 128) : cnt f b = 0 := by
  cases f with
  | zero => rfl
  | succ f =>
    cases b with
    | nil => rfl
    | cons y b =>
      rcases h with h | h | h
      · omega
      · cases h
      · rw [cnt, if_neg (by simp at h; omega)]
theorem cnt_step {n : Nat} {b : List UInt8} (h9 : n < 10) (hn : n < b.length) (h : (b.getD n 0).toNat ≥ 128) : cnt (10 - n) (b.drop n) = cnt (10 - (n + 1)) (b.drop (n + 1)) + 1 := by
  rw [List.drop_eq_getElem_cons hn, show 10 - n = (10 - (n + 1)) + 1 by omega, cnt, if_pos (by simpa [List.getD_eq_getElem?_getD, hn] using h)]
theorem getD_drop0 (b : List UInt8) (n : Nat) : (b.drop n).getD 0 0 = b.getD n 0 := by simp [List.getD_eq_getElem?_getD]
theorem vl_lt : ∀ l : List UInt8, vl l < 128 ^ l.length
  | [] => by simp [vl]
  | x :: l => by
    have h := vl_lt l
    have hm : x.toNat % 128 < 128 := Nat.mod_lt _ (by decide)
    rw [vl, List.length_cons, Nat.pow_succ]
    omega
theorem vl_drop (l : List UInt8) : ∀ j, vl (l.drop j) ≤ vl l := by
  induction l with
  | nil => intro j; simp [vl]
  | cons x l ih =>
    intro j
    cases j with
    | zero => exact Nat.le_refl _
    | succ j =>
      have := ih j
      rw [List.drop_succ_cons, vl]
      omega
theorem vl_snoc (l : List UInt8) (y : UInt8) : vl (l ++ [y]) = vl l + y.toNat % 128 * 128 ^ l.length := by
  induction l with
  | nil => simp [vl]
  | cons x l ih =>
    rw [List.cons_append, vl, ih, vl, List.length_cons, Nat.pow_succ, Nat.mul_add, Nat.add_assoc]
    congr 2
    rw [Nat.mul_comm 128, Nat.mul_assoc]
theorem vl_max {b : List UInt8} {n : Nat} (h9 : n ≤ 9) (hn : n < b.length) (h : n = 9 → (b.getD 9 0).toNat ≤ 1) : vl (b.take (n + 1)) < 18446744073709551616 := by
  by_cases h8 : n ≤ 8
  · have h1 := vl_lt (b.take (n + 1))
    rw [List.length_take, Nat.min_eq_left (by omega)] at h1
    have h2 : 128 ^ (n + 1) ≤ 128 ^ 9 := Nat.pow_le_pow_right (by decide) (by omega)
    have h3 : (128 : Nat) ^ 9 = 9223372036854775808 := by decide
    omega
  · have e : n = 9 := by omega
    subst e
    have hb := h rfl
    have hx : b.getD 9 0 = b[9] := by simp [List.getD_eq_getElem?_getD, hn]
    rw [List.take_succ_eq_append_getElem hn, vl_snoc]
    have h1 := vl_lt (b.take 9)
    rw [List.length_take, Nat.min_eq_left (by omega)] at h1 ⊢
    have h3 : (128 : Nat) ^ 9 = 9223372036854775808 := by decide
    rw [← hx, h3, Nat.mod_eq_of_lt (by omega)]
    have h4 : (b.getD 9 0).toNat * 9223372036854775808 ≤ 1 * 9223372036854775808 := Nat.mul_le_mul_right _ hb
    omega
theorem vl_at {l : List UInt8} {j : Nat} (h : j < l.length) : vl (l.drop j) = (l.getD j 0).toNat % 128 + 128 * vl (l.drop (j + 1)) := by
  rw [List.drop_eq_getElem_cons h, vl]
  simp [List.getD_eq_getElem?_getD, h]
theorem getD_take {b : List UInt8} {j n : Nat} (h : j < n) : (b.take n).getD j 0 = b.getD j 0 := by simp [List.getD_eq_getElem?_getD, h]
theorem add_u64 (T : TypeId) (a b : Nat) (h : a + b < 18446744073709551616) : aBin prog .add T (u64 a) (u64 b) = some (u64 (a + b)) := by
  simp only [aBin, aInt, if_true, Option.map_some]
  rw [show ((a : Nat) : Int) + ((b : Nat) : Int) = ((a + b : Nat) : Int) by omega, wrap_u64m, Nat.mod_eq_of_lt h]
theorem mul_u64 (T : TypeId) (a : Nat) (h : a * 128 < 18446744073709551616) : aBin prog .mul T (u64 a) (.val (.int .u64 128)) = some (u64 (a * 128)) := by
  simp only [aBin, aInt, if_true, Option.map_some]
  rw [show ((a : Nat) : Int) * 128 = ((a * 128 : Nat) : Int) by omega, wrap_u64m, Nat.mod_eq_of_lt h]
theorem fail_ne (r : Rd) : (r.fail 1).e ≠ 0 := by
  unfold Rd.fail
  by_cases h0 : r.e = 0
  · rw [if_pos h0]; decide
  · rw [if_neg h0]; exact h0
/-- What stands when a number's bytes were looked for. -/
def Rd.look (r : Rd) (n : Nat) : Rd := if n < 10 ∧ r.b.length ≤ n then r.fail 1 else r
theorem look_bad {r : Rd} {n most : Nat} (hn : cnt 10 r.b = n) (h : (r.look n).e ≠ 0) : r.var most = (0, r.look n) := by
  unfold Rd.look Rd.fail at *
  unfold Rd.var varAt
  rw [hn]
  by_cases h0 : r.e = 0
  · by_cases h1 : n < 10 ∧ r.b.length ≤ n
    · rw [if_neg (by simp [h0]), if_pos h1, if_pos h1, if_pos h0]
    · rw [if_neg h1] at h
      exact absurd h0 h
  · rw [if_pos h0, if_neg h0]
    split <;> rfl
theorem look_ok {r : Rd} {n most : Nat} (hn : cnt 10 r.b = n) (h : (r.look n).e = 0) : r.look n = r ∧ r.e = 0 ∧ ¬ (n < 10 ∧ r.b.length ≤ n) ∧ r.var most = (if n = 10 ∨ (n + 1 = 10 ∧ (r.b.getD n 0).toNat > 1) ∨ (n > 0 ∧ (r.b.getD n 0).toNat = 0) then (0, r.fail 2)
    else if vl (r.b.take (n + 1)) > most then (0, (Rd.mk (r.b.drop (n + 1)) 0).fail 4) else (vl (r.b.take (n + 1)), ⟨r.b.drop (n + 1), 0⟩)) := by
  unfold Rd.look at *
  by_cases h1 : n < 10 ∧ r.b.length ≤ n
  · rw [if_pos h1] at h
    exact absurd h (fail_ne r)
  · rw [if_neg h1] at h ⊢
    refine ⟨rfl, h, h1, ?_⟩
    unfold Rd.var varAt Rd.fail
    rw [hn, if_neg (by simp [h]), if_neg h1, if_pos h, if_pos rfl]
    simp only [Nat.zero_add, Nat.mul_zero, Nat.pow_zero, Nat.mul_one]
theorem tmod128 (k : Nat) : Int.tmod ((k : Nat) : Int) 128 = ((k % 128 : Nat) : Int) := rfl
set_option maxRecDepth 100000 in
theorem rfail_calls (σ : Sto) (o : Nat) (r : Rd) (c : Int) (hc : c ≠ 0) (hk : σ[o]? = some (RS r)) : ACalls prog Γ 31 [.ref o 0, i64 c] σ (fun v σ' => σ' = σ.set o (RS (r.fail c))) := by
  refine ACalls.of func31 rfl ?_
  simp only [ntmps31, List.length_cons, List.length_nil, Nat.reduceAdd, Nat.reduceSub, List.replicate_succ, List.replicate_zero, List.cons_append, List.nil_append]
  refine AW.regtf false 12 (.val (.bool ((r.e == 0) && (c != 0)))) (by rfl) ?_ ?_ -- region 0
  · skip
    cases h8 : ((r.e == 0))
    · skip
      simp only [go_sem, Nat.reduceAdd, Nat.reduceEqDiff, Nat.reduceLeDiff, true_and, Option.map_none, Option.map_some, RS, hk, get_set hk, List.set_set, bs_size, h8]
      try simp [upd_at, h8, Option.map_none, Option.map_some, RS, hk, get_set hk, List.set_set, bs_size]
    · skip
      simp only [go_sem, Nat.reduceAdd, Nat.reduceEqDiff, Nat.reduceLeDiff, true_and, Option.map_none, Option.map_some, RS, hk, get_set hk, List.set_set, bs_size, h8]
      try simp [upd_at, h8, Option.map_none, Option.map_some, RS, hk, get_set hk, List.set_set, bs_size]
  conv => enter [5]; simp only [List.set_cons_zero, List.set_cons_succ]
  refine AW.cond rfl (fun hc12 => ?_) (fun hc12 => ?_)
  · skip
    have h0 : r.e = 0 := by simp only [Bool.and_eq_true, beq_iff_eq] at hc12; exact hc12.1
    refine AW.regl false [] (by rfl) fun K2 hK2 => ?_ -- region 1
    simp only [go_sem, Nat.reduceAdd, Nat.reduceEqDiff, Nat.reduceLeDiff, true_and, Option.map_none, Option.map_some, RS, hk, get_set hk, List.set_set, bs_size]
    refine hK2 _ _ ?_; try clear hK2 K2
    conv => enter [5]; simp only [setL_cons, setL_nil, List.set_cons_zero, List.set_cons_succ, upd_none, upd_at]
    refine AW.lastl false [] (by rfl) fun K hK => ?_ -- region 2
    simp only [go_sem, Nat.reduceAdd, Nat.reduceEqDiff, Nat.reduceLeDiff, true_and, Option.map_none, Option.map_some, RS, hk, get_set hk, List.set_set, bs_size]
    refine hK _ _ fun env' hw => ?_
    simp only [setL_cons, setL_nil, List.set_cons_zero, List.set_cons_succ] at hw
    first
      | exact ⟨.inl rfl, .tup [], rfl, by rw [Rd.fail, if_pos h0]; rfl⟩
      | exact ⟨.inl rfl, .tup [], rfl, by rw [Rd.fail, if_neg h0]; exact (rd_self hk).symm⟩
  · skip
    have h0 : r.e ≠ 0 := fun e => by simp [e, hc] at hc12
    refine AW.skip ?_
    first
      | exact ⟨.inl rfl, .tup [], rfl, by rw [Rd.fail, if_pos h0]; rfl⟩
      | exact ⟨.inl rfl, .tup [], rfl, by rw [Rd.fail, if_neg h0]; exact (rd_self hk).symm⟩

set_option maxRecDepth 100000 in
theorem rraw_calls (σ : Sto) (o : Nat) (r : Rd) (n : Nat) (hb : r.b.length ≤ maxLen) (hk : σ[o]? = some (RS r)) : ACalls prog Γ 34 [.ref o 0, u64 n] σ (fun v σ' => v = str (bs (r.raw n).1) ∧ σ' = σ.set o (RS (r.raw n).2)) := by
  refine ACalls.of func34 rfl ?_
  simp only [ntmps34, List.length_cons, List.length_nil, Nat.reduceAdd, Nat.reduceSub, List.replicate_succ, List.replicate_zero, List.cons_append, List.nil_append]
  refine AW.regl false [4] (by rfl) fun K1 hK1 => ?_ -- region 0
  simp only [go_sem, Nat.reduceAdd, Nat.reduceEqDiff, Nat.reduceLeDiff, true_and, Option.map_none, Option.map_some, RS, hk, get_set hk, List.set_set, bs_size, wrap_u64n hb]
  refine hK1 _ _ ?_; try clear hK1 K1
  conv => enter [5]; simp only [setL_cons, setL_nil, List.set_cons_zero, List.set_cons_succ]
  refine AW.mid (α := Rd) (fun z => [(.ref o 0), (u64 n), .any, .any, .any, .any, .any, .any, .any, .any, .any, .any, .any, .any, .any, .any, .any, .any, .any, .any, .any, .any, .any, .any, .any, .any, .any, .any, .any, .any, .any, .any, .any, .any, .any, .any, .any]) (fun z => σ.set o (RS z)) (fun z => z = r.ask n) ?_ ?_
  · skip
    refine AW.regl false [13] (by rfl) fun K3 hK3 => ?_ -- region 1
    simp only [go_sem, Nat.reduceAdd, Nat.reduceEqDiff, Nat.reduceLeDiff, true_and, Option.map_none, Option.map_some, RS, hk, get_set hk, List.set_set, bs_size, wrap_u64n hb]
    refine hK3 _ _ ?_; try clear hK3 K3
    conv => enter [5]; simp only [setL_cons, setL_nil, List.set_cons_zero, List.set_cons_succ]
    refine AW.cond rfl (fun hc13 => ?_) (fun hc13 => ?_)
    · skip
      have hlt : r.b.length < n := by simpa using hc13
      refine AW.lastl false [] (by rfl) fun K hK => ?_ -- region 2
      simp only [go_sem, Nat.reduceAdd, Nat.reduceEqDiff, Nat.reduceLeDiff, true_and, Option.map_none, Option.map_some, RS, hk, get_set hk, List.set_set, bs_size, wrap_u64n hb]
      refine sC.ofR en31 (rfail_calls σ o r 1 (by decide) hk) (fun v' σ' hR => ?_)
      obtain rfl := hR
      simp only [go_sem, Nat.reduceAdd, Nat.reduceEqDiff, Nat.reduceLeDiff, true_and, Option.map_none, Option.map_some, RS, hk, get_set hk, List.set_set, bs_size, wrap_u64n hb]
      refine hK _ _ fun env' hw => ?_
      simp only [setL_cons, setL_nil, List.set_cons_zero, List.set_cons_succ] at hw
      first
        | exact ⟨r.fail 1, (if_pos hlt).symm, (hw.trans (by simp [Wk])), rfl⟩
        | exact ⟨r, (if_neg hge).symm, (hw.trans (by simp [Wk])), set_self' hk⟩
    · skip
      have hge : ¬ r.b.length < n := by simpa using hc13
      refine AW.skip ?_
      first
        | exact ⟨r.fail 1, (if_pos hlt).symm, (by simp [Wk]), rfl⟩
        | exact ⟨r, (if_neg hge).symm, (by simp [Wk]), set_self' hk⟩
  · skip
    rintro r1 hr1
    refine AW.seq_k fun K4 hK4 => ?_
    refine AW.regl false [20] (by rfl) fun K5 hK5 => ?_ -- region 3
    simp only [go_sem, Nat.reduceAdd, Nat.reduceEqDiff, Nat.reduceLeDiff, true_and, Option.map_none, Option.map_some, RS, hk, get_set hk, List.set_set, bs_size, wrap_u64n hb]
    refine hK5 _ _ ?_; try clear hK5 K5
    conv => enter [5]; simp only [setL_cons, setL_nil, List.set_cons_zero, List.set_cons_succ]
    refine AW.cond rfl (fun hc20 => ?_) (fun hc20 => ?_)
    · skip
      have he : (r.ask n).e ≠ 0 := by rw [← hr1]; simpa using hc20
      refine AW.regl false [4] (by rfl) fun K6 hK6 => ?_ -- region 4
      simp only [go_sem, Nat.reduceAdd, Nat.reduceEqDiff, Nat.reduceLeDiff, true_and, Option.map_none, Option.map_some, RS, hk, get_set hk, List.set_set, bs_size, wrap_u64n hb]
      refine hK6 _ _ ?_; try clear hK6 K6
      conv => enter [5]; simp only [setL_cons, setL_nil, List.set_cons_zero, List.set_cons_succ]
      exact AW.ret ⟨.inr rfl, _, rfl, by rw [ask_bad he]; rfl, by rw [ask_bad he, hr1]⟩
    · skip
      have he0 : (r.ask n).e = 0 := by rw [← hr1]; simpa using hc20
      obtain ⟨g1, g2, g3, g4⟩ := ask_ok he0
      rw [g1] at hr1
      subst hr1
      refine AW.skip ?_
      refine hK4 _ _ ?_; try clear hK4 K4
      refine AW.regl false [5] (by rfl) fun K7 hK7 => ?_ -- region 5
      simp only [go_sem, Nat.reduceAdd, Nat.reduceEqDiff, Nat.reduceLeDiff, true_and, Option.map_none, Option.map_some, RS, hk, get_set hk, List.set_set, bs_size, wrap_u64n hb, sls_hi r1.b _ g3]
      refine hK7 _ _ ?_; try clear hK7 K7
      conv => enter [5]; simp only [setL_cons, setL_nil, List.set_cons_zero, List.set_cons_succ]
      refine AW.regl false [] (by rfl) fun K8 hK8 => ?_ -- region 6
      simp only [go_sem, Nat.reduceAdd, Nat.reduceEqDiff, Nat.reduceLeDiff, true_and, Option.map_none, Option.map_some, RS, hk, get_set hk, List.set_set, bs_size, wrap_u64n hb, sls_lo r1.b _ g3]
      refine hK8 _ _ ?_; try clear hK8 K8
      conv => enter [5]; simp only [setL_cons, setL_nil, List.set_cons_zero, List.set_cons_succ, upd_none, upd_at]
      refine AW.regl false [4] (by rfl) fun K9 hK9 => ?_ -- region 7
      simp only [go_sem, Nat.reduceAdd, Nat.reduceEqDiff, Nat.reduceLeDiff, true_and, Option.map_none, Option.map_some, RS, hk, get_set hk, List.set_set, bs_size, wrap_u64n hb]
      refine hK9 _ _ ?_; try clear hK9 K9
      conv => enter [5]; simp only [setL_cons, setL_nil, List.set_cons_zero, List.set_cons_succ]
      exact AW.ret ⟨.inr rfl, _, rfl, by rw [g4], by rw [g4, g2]⟩

set_option maxRecDepth 100000 in
set_option maxHeartbeats 1000000 in
theorem rvar_calls (σ : Sto) (o : Nat) (r : Rd) (most : Nat) (hb : r.b.length ≤ maxLen) (hk : σ[o]? = some (RS r)) : ACalls prog Γ 29 [.ref o 0, u64 most] σ (fun v σ' => v = u64 (r.var most).1 ∧ σ' = σ.set o (RS (r.var most).2)) := by
  refine ACalls.of func29 rfl ?_
  simp only [ntmps29, List.length_cons, List.length_nil, Nat.reduceAdd, Nat.reduceSub, List.replicate_succ, List.replicate_zero, List.cons_append, List.nil_append]
  refine AW.regl false [4] (by rfl) fun K1 hK1 => ?_ -- region 0
  simp only [go_sem, Nat.reduceAdd, Nat.reduceEqDiff, Nat.reduceLeDiff, true_and, Option.map_none, Option.map_some, RS, hk, get_set hk, List.set_set, bs_size]
  refine hK1 _ _ ?_; try clear hK1 K1
  conv => enter [5]; simp only [setL_cons, setL_nil, List.set_cons_zero, List.set_cons_succ]
  refine AW.regl false [5] (by rfl) fun K2 hK2 => ?_ -- region 1
  simp only [go_sem, Nat.reduceAdd, Nat.reduceEqDiff, Nat.reduceLeDiff, true_and, Option.map_none, Option.map_some, RS, hk, get_set hk, List.set_set, bs_size]
  refine hK2 _ _ ?_; try clear hK2 K2
  conv => enter [5]; simp only [setL_cons, setL_nil, List.set_cons_zero, List.set_cons_succ]
  refine AW.seq_k fun K3 hK3 => ?_
  refine AW.block ?_
  refine AW.loop_wk (α := Nat) (fun n => [(.ref o 0), (u64 most), .any, .any, .any, (i64 (n : Nat)), .any, .any, .any, .any, .any, .any, .any, .any, .any, .any, .any, .any, .any, .any, .any, .any, .any, .any, .any, .any, .any, .any, .any, .any, .any, .any, .any, .any, .any, .any, .any, .any, .any, .any, .any, .any, .any, .any, .any, .any, .any, .any, .any, .any, .any, .any, .any, .any, .any, .any, .any, .any, .any, .any, .any, .any, .any, .any, .any, .any, .any, .any, .any, .any, .any, .any, .any, .any, .any, .any, .any, .any, .any, .any, .any, .any, .any, .any, .any, .any, .any, .any, .any, .any, .any, .any, .any, .any, .any, .any, .any, .any, .any, .any, .any, .any, .any, .any, .any, .any, .any, .any, .any]) (fun n => σ) (fun n => 10 - n) (fun n => n ≤ 10 ∧ n ≤ r.b.length ∧ cnt 10 r.b = n + cnt (10 - n) (r.b.drop n)) 0 ?_ ?_
  · exact ⟨⟨by omega, by omega, by simp⟩, by simp [Wk], rfl⟩
  · rintro n ⟨hn10, hnl, hcn⟩
    refine AW.seq_k fun K4 hK4 => ?_
    refine AW.regtf false 27 (.val (.bool (((decide (((n : Nat) : Int) < ((r.b.length : Nat) : Int))) && (decide (((n : Nat) : Int) < 10))) && (decide ((((r.b.getD n 0).toNat : Nat) : Int) ≥ 128))))) (by rfl) ?_ ?_ -- region 2
    · skip
      cases h14 : ((decide (((n : Nat) : Int) < ((r.b.length : Nat) : Int))))
      · skip
        have hix : True := trivial
        simp only [go_sem, Nat.reduceAdd, Nat.reduceEqDiff, Nat.reduceLeDiff, true_and, Option.map_none, Option.map_some, RS, hk, get_set hk, List.set_set, bs_size, hix, byteAV, h14]
        try simp [upd_at, h14, Option.map_none, Option.map_some, RS, hk, get_set hk, List.set_set, bs_size, hix, byteAV]
      · skip
        have hix := idxB r.b .i64 (i := n) (by simpa using h14)
        cases h17 : ((decide (((n : Nat) : Int) < 10)))
        · skip
          simp only [go_sem, Nat.reduceAdd, Nat.reduceEqDiff, Nat.reduceLeDiff, true_and, Option.map_none, Option.map_some, RS, hk, get_set hk, List.set_set, bs_size, hix, byteAV, h14, h17]
          try simp [upd_at, h14, h17, Option.map_none, Option.map_some, RS, hk, get_set hk, List.set_set, bs_size, hix, byteAV]
        · skip
          simp only [go_sem, Nat.reduceAdd, Nat.reduceEqDiff, Nat.reduceLeDiff, true_and, Option.map_none, Option.map_some, RS, hk, get_set hk, List.set_set, bs_size, hix, byteAV, h14, h17]
          try simp [upd_at, h14, h17, Option.map_none, Option.map_some, RS, hk, get_set hk, List.set_set, bs_size, hix, byteAV]
    conv => enter [5]; simp only [List.set_cons_zero, List.set_cons_succ]
    refine AW.cond rfl (fun hc27 => ?_) (fun hc27 => ?_)
    · skip
      have hcc : n < r.b.length ∧ n < 10 ∧ (r.b.getD n 0).toNat ≥ 128 := by
        simp only [Bool.and_eq_true, decide_eq_true_eq] at hc27
        omega
      refine AW.skip ?_
      refine hK4 _ _ ?_; try clear hK4 K4
      refine AW.block ?_
      refine AW.lastl false [5] (by rfl) fun K hK => ?_ -- region 3
      simp only [go_sem, Nat.reduceAdd, Nat.reduceEqDiff, Nat.reduceLeDiff, true_and, Option.map_none, Option.map_some, RS, hk, get_set hk, List.set_set, bs_size]
      refine hK _ _ fun env' hw => ?_
      simp only [setL_cons, setL_nil, List.set_cons_zero, List.set_cons_succ] at hw
      refine ⟨n + 1, by omega, ⟨by omega, by omega, by rw [hcn, cnt_step hcc.2.1 hcc.1 hcc.2.2]; omega⟩, ?_, rfl⟩
      refine hw.trans ?_
      simp [Wk, wrap_add1 (a := n) (by omega)]
    · skip
      have hcn0 : cnt (10 - n) (r.b.drop n) = 0 := by
        refine cnt_stop ?_
        rw [getD_drop0]
        simp only [Bool.and_eq_false_iff, decide_eq_false_iff_not] at hc27
        by_cases h1 : n < r.b.length
        · by_cases h2 : n < 10
          · exact .inr (.inr (by omega))
          · exact .inl (by omega)
        · exact .inr (.inl (List.drop_eq_nil_of_le (by omega)))
      have hcnt : cnt 10 r.b = n := by omega
      refine AW.exit ?_
      refine hK3 _ _ ?_; try clear hK3 K3
      refine AW.mid (α := Rd) (fun z => [(.ref o 0), (u64 most), .any, .any, .any, (i64 (n : Nat)), .any, .any, .any, .any, .any, .any, .any, .any, .any, .any, .any, .any, .any, .any, .any, .any, .any, .any, .any, .any, .any, .any, .any, .any, .any, .any, .any, .any, .any, .any, .any, .any, .any, .any, .any, .any, .any, .any, .any, .any, .any, .any, .any, .any, .any, .any, .any, .any, .any, .any, .any, .any, .any, .any, .any, .any, .any, .any, .any, .any, .any, .any, .any, .any, .any, .any, .any, .any, .any, .any, .any, .any, .any, .any, .any, .any, .any, .any, .any, .any, .any, .any, .any, .any, .any, .any, .any, .any, .any, .any, .any, .any, .any, .any, .any, .any, .any, .any, .any, .any, .any, .any, .any]) (fun z => σ.set o (RS z)) (fun z => z = r.look n) ?_ ?_
      · skip
        refine AW.regtf false 40 (.val (.bool ((decide (((n : Nat) : Int) < 10)) && (decide (((n : Nat) : Int) ≥ ((r.b.length : Nat) : Int)))))) (by rfl) ?_ ?_ -- region 4
        · skip
          cases h31 : ((decide (((n : Nat) : Int) < 10)))
          · skip
            simp only [go_sem, Nat.reduceAdd, Nat.reduceEqDiff, Nat.reduceLeDiff, true_and, Option.map_none, Option.map_some, RS, hk, get_set hk, List.set_set, bs_size, h31]
            try simp [upd_at, h31, Option.map_none, Option.map_some, RS, hk, get_set hk, List.set_set, bs_size]
          · skip
            simp only [go_sem, Nat.reduceAdd, Nat.reduceEqDiff, Nat.reduceLeDiff, true_and, Option.map_none, Option.map_some, RS, hk, get_set hk, List.set_set, bs_size, h31]
            try simp [upd_at, h31, Option.map_none, Option.map_some, RS, hk, get_set hk, List.set_set, bs_size]
        conv => enter [5]; simp only [List.set_cons_zero, List.set_cons_succ]
        refine AW.cond rfl (fun hc40 => ?_) (fun hc40 => ?_)
        · skip
          have hsh : n < 10 ∧ r.b.length ≤ n := by
            simp only [Bool.and_eq_true, decide_eq_true_eq] at hc40
            omega
          refine AW.lastl false [] (by rfl) fun K hK => ?_ -- region 5
          simp only [go_sem, Nat.reduceAdd, Nat.reduceEqDiff, Nat.reduceLeDiff, true_and, Option.map_none, Option.map_some, RS, hk, get_set hk, List.set_set, bs_size]
          refine sC.ofR en31 (rfail_calls σ o r 1 (by decide) hk) (fun v' σ' hR => ?_)
          obtain rfl := hR
          simp only [go_sem, Nat.reduceAdd, Nat.reduceEqDiff, Nat.reduceLeDiff, true_and, Option.map_none, Option.map_some, RS, hk, get_set hk, List.set_set, bs_size]
          refine hK _ _ fun env' hw => ?_
          simp only [setL_cons, setL_nil, List.set_cons_zero, List.set_cons_succ] at hw
          first
            | exact ⟨r.fail 1, (if_pos hsh).symm, (hw.trans (by simp [Wk])), rfl⟩
            | exact ⟨r, (if_neg hsh).symm, (hw.trans (by simp [Wk])), set_self' hk⟩
        · skip
          have hsh : ¬ (n < 10 ∧ r.b.length ≤ n) := by
            simp only [Bool.and_eq_false_iff, decide_eq_false_iff_not] at hc40
            omega
          refine AW.skip ?_
          first
            | exact ⟨r.fail 1, (if_pos hsh).symm, (by simp [Wk]), rfl⟩
            | exact ⟨r, (if_neg hsh).symm, (by simp [Wk]), set_self' hk⟩
      · skip
        rintro r1 hr1
        refine AW.seq_k fun K8 hK8 => ?_
        refine AW.regl false [47] (by rfl) fun K9 hK9 => ?_ -- region 6
        simp only [go_sem, Nat.reduceAdd, Nat.reduceEqDiff, Nat.reduceLeDiff, true_and, Option.map_none, Option.map_some, RS, hk, get_set hk, List.set_set, bs_size]
        refine hK9 _ _ ?_; try clear hK9 K9
        conv => enter [5]; simp only [setL_cons, setL_nil, List.set_cons_zero, List.set_cons_succ]
        refine AW.cond rfl (fun hc47 => ?_) (fun hc47 => ?_)
        · skip
          have he : (r.look n).e ≠ 0 := by rw [← hr1]; simpa using hc47
          refine AW.regl false [4] (by rfl) fun K10 hK10 => ?_ -- region 7
          simp only [go_sem, Nat.reduceAdd, Nat.reduceEqDiff, Nat.reduceLeDiff, true_and, Option.map_none, Option.map_some, RS, hk, get_set hk, List.set_set, bs_size]
          refine hK10 _ _ ?_; try clear hK10 K10
          conv => enter [5]; simp only [setL_cons, setL_nil, List.set_cons_zero, List.set_cons_succ]
          exact AW.ret ⟨.inr rfl, _, rfl, by rw [look_bad hcnt he]; rfl, by rw [look_bad hcnt he, hr1]⟩
        · skip
          have he0 : (r.look n).e = 0 := by rw [← hr1]; simpa using hc47
          obtain ⟨g1, g2, g3, g4⟩ := look_ok (most := most) hcnt he0
          rw [g1] at hr1
          subst r1
          have hix9 : True := trivial
          have hixn : True := trivial
          refine AW.skip ?_
          refine hK8 _ _ ?_; try clear hK8 K8
          refine AW.seq_k fun K11 hK11 => ?_
          refine AW.regtf false 74 (.val (.bool (((((n : Nat) : Int) == 10) || ((((n : Nat) : Int) == 9) && (decide ((((r.b.getD 9 0).toNat : Nat) : Int) > 1)))) || ((decide (((n : Nat) : Int) > 0)) && ((((r.b.getD n 0).toNat : Nat) : Int) == 0))))) (by rfl) ?_ ?_ -- region 8
          · skip
            cases h49 : ((((n : Nat) : Int) == 10))
            · skip
              cases h52 : ((((n : Nat) : Int) == 9))
              · skip
                have hix9 : True := trivial
                cases h64 : ((decide (((n : Nat) : Int) > 0)))
                · skip
                  have hixn : True := trivial
                  simp only [go_sem, Nat.reduceAdd, Nat.reduceEqDiff, Nat.reduceLeDiff, true_and, Option.map_none, Option.map_some, RS, hk, get_set hk, List.set_set, bs_size, hix9, hixn, byteAV, h49, h52, h64]
                  try simp [upd_at, h49, h52, h64, Option.map_none, Option.map_some, RS, hk, get_set hk, List.set_set, bs_size, hix9, hixn, byteAV]
                · skip
                  have hixn := idxB r.b .i64 (i := n) (by simp only [beq_eq_false_iff_ne, ne_eq] at h49; omega)
                  simp only [go_sem, Nat.reduceAdd, Nat.reduceEqDiff, Nat.reduceLeDiff, true_and, Option.map_none, Option.map_some, RS, hk, get_set hk, List.set_set, bs_size, hix9, hixn, byteAV, h49, h52, h64]
                  try simp [upd_at, h49, h52, h64, Option.map_none, Option.map_some, RS, hk, get_set hk, List.set_set, bs_size, hix9, hixn, byteAV]
              · skip
                have hix9 : aIndex prog 9 (str (bs r.b)) (.val (.int .i64 9)) = some (byteAV (r.b.getD 9 0)) := idxB r.b .i64 (i := 9) (by simp only [beq_iff_eq] at h52; omega)
                cases h59 : ((decide ((((r.b.getD 9 0).toNat : Nat) : Int) > 1)))
                · skip
                  cases h64 : ((decide (((n : Nat) : Int) > 0)))
                  · skip
                    have hixn : True := trivial
                    simp only [go_sem, Nat.reduceAdd, Nat.reduceEqDiff, Nat.reduceLeDiff, true_and, Option.map_none, Option.map_some, RS, hk, get_set hk, List.set_set, bs_size, hix9, hixn, byteAV, h49, h52, h59, h64]
                    try simp [upd_at, h49, h52, h59, h64, Option.map_none, Option.map_some, RS, hk, get_set hk, List.set_set, bs_size, hix9, hixn, byteAV]
                  · skip
                    have hixn := idxB r.b .i64 (i := n) (by simp only [beq_eq_false_iff_ne, ne_eq] at h49; omega)
                    simp only [go_sem, Nat.reduceAdd, Nat.reduceEqDiff, Nat.reduceLeDiff, true_and, Option.map_none, Option.map_some, RS, hk, get_set hk, List.set_set, bs_size, hix9, hixn, byteAV, h49, h52, h59, h64]
                    try simp [upd_at, h49, h52, h59, h64, Option.map_none, Option.map_some, RS, hk, get_set hk, List.set_set, bs_size, hix9, hixn, byteAV]
                · skip
                  simp only [go_sem, Nat.reduceAdd, Nat.reduceEqDiff, Nat.reduceLeDiff, true_and, Option.map_none, Option.map_some, RS, hk, get_set hk, List.set_set, bs_size, hix9, hixn, byteAV, h49, h52, h59]
                  try simp [upd_at, h49, h52, h59, Option.map_none, Option.map_some, RS, hk, get_set hk, List.set_set, bs_size, hix9, hixn, byteAV]
            · skip
              simp only [go_sem, Nat.reduceAdd, Nat.reduceEqDiff, Nat.reduceLeDiff, true_and, Option.map_none, Option.map_some, RS, hk, get_set hk, List.set_set, bs_size, hix9, hixn, byteAV, h49]
              try simp [upd_at, h49, Option.map_none, Option.map_some, RS, hk, get_set hk, List.set_set, bs_size, hix9, hixn, byteAV]
          conv => enter [5]; simp only [List.set_cons_zero, List.set_cons_succ]
          refine AW.cond rfl (fun hc74 => ?_) (fun hc74 => ?_)
          · skip
            have hbad : n = 10 ∨ (n + 1 = 10 ∧ (r.b.getD n 0).toNat > 1) ∨ (n > 0 ∧ (r.b.getD n 0).toNat = 0) := by
              simp only [Bool.or_eq_true, Bool.and_eq_true, decide_eq_true_eq, beq_iff_eq] at hc74
              rcases hc74 with (h | ⟨h1, h2⟩) | ⟨h1, h2⟩
              · exact .inl (by omega)
              · have e9 : n = 9 := by omega
                subst e9
                exact .inr (.inl ⟨rfl, by omega⟩)
              · exact .inr (.inr ⟨by omega, by omega⟩)
            refine AW.regl false [] (by rfl) fun K13 hK13 => ?_ -- region 9
            simp only [go_sem, Nat.reduceAdd, Nat.reduceEqDiff, Nat.reduceLeDiff, true_and, Option.map_none, Option.map_some, RS, hk, get_set hk, List.set_set, bs_size]
            refine sC.ofR en31 (rfail_calls (σ.set o (RS r)) o r 2 (by decide) (get_set hk)) (fun v' σ' hR => ?_)
            obtain rfl := hR
            simp only [go_sem, Nat.reduceAdd, Nat.reduceEqDiff, Nat.reduceLeDiff, true_and, Option.map_none, Option.map_some, RS, hk, get_set hk, List.set_set, bs_size]
            refine hK13 _ _ ?_; try clear hK13 K13
            conv => enter [5]; simp only [setL_cons, setL_nil, List.set_cons_zero, List.set_cons_succ]
            refine AW.regl false [4] (by rfl) fun K14 hK14 => ?_ -- region 10
            simp only [go_sem, Nat.reduceAdd, Nat.reduceEqDiff, Nat.reduceLeDiff, true_and, Option.map_none, Option.map_some, RS, hk, get_set hk, List.set_set, bs_size]
            refine hK14 _ _ ?_; try clear hK14 K14
            conv => enter [5]; simp only [setL_cons, setL_nil, List.set_cons_zero, List.set_cons_succ]
            exact AW.ret ⟨.inr rfl, _, rfl, by rw [g4, if_pos hbad]; rfl, by rw [g4, if_pos hbad]⟩
          · skip
            have hbad : ¬ (n = 10 ∨ (n + 1 = 10 ∧ (r.b.getD n 0).toNat > 1) ∨ (n > 0 ∧ (r.b.getD n 0).toNat = 0)) := by
              intro h
              simp only [Bool.or_eq_false_iff, Bool.and_eq_false_iff, decide_eq_false_iff_not, beq_eq_false_iff_ne, ne_eq] at hc74
              obtain ⟨⟨h1, h2⟩, h3⟩ := hc74
              rcases h with h | ⟨h4, h5⟩ | ⟨h4, h5⟩
              · omega
              · have e9 : n = 9 := by omega
                subst e9
                rcases h2 with h2 | h2 <;> omega
              · rcases h3 with h3 | h3 <;> omega
            rw [if_neg hbad] at g4
            have hn9 : n ≤ 9 := by omega
            have hnlt : n < r.b.length := by omega
            have hmx := vl_max hn9 hnlt (fun e => by subst e; omega)
            refine AW.skip ?_
            refine hK11 _ _ ?_; try clear hK11 K11
            refine AW.regl false [6] (by rfl) fun K15 hK15 => ?_ -- region 11
            simp only [go_sem, Nat.reduceAdd, Nat.reduceEqDiff, Nat.reduceLeDiff, true_and, Option.map_none, Option.map_some, RS, hk, get_set hk, List.set_set, bs_size]
            refine hK15 _ _ ?_; try clear hK15 K15
            conv => enter [5]; simp only [setL_cons, setL_nil, List.set_cons_zero, List.set_cons_succ]
            refine AW.seq_k fun K16 hK16 => ?_
            refine AW.regl false [7] (by rfl) fun K17 hK17 => ?_ -- region 12
            simp only [go_sem, Nat.reduceAdd, Nat.reduceEqDiff, Nat.reduceLeDiff, true_and, Option.map_none, Option.map_some, RS, hk, get_set hk, List.set_set, bs_size]
            refine hK17 _ _ ?_; try clear hK17 K17
            conv => enter [5]; simp only [setL_cons, setL_nil, List.set_cons_zero, List.set_cons_succ]
            refine AW.block ?_
            refine AW.loop_wk (α := Nat) (fun j => [(.ref o 0), (u64 most), .any, .any, .any, (i64 (n : Nat)), (u64 (vl ((r.b.take (n + 1)).drop j))), (i64 (((j : Nat) : Int) - 1)), .any, .any, .any, .any, .any, .any, .any, .any, .any, .any, .any, .any, .any, .any, .any, .any, .any, .any, .any, .any, .any, .any, .any, .any, .any, .any, .any, .any, .any, .any, .any, .any, .any, .any, .any, .any, .any, .any, .any, .any, .any, .any, .any, .any, .any, .any, .any, .any, .any, .any, .any, .any, .any, .any, .any, .any, .any, .any, .any, .any, .any, .any, .any, .any, .any, .any, .any, .any, .any, .any, .any, .any, .any, .any, .any, .any, .any, .any, .any, .any, .any, .any, .any, .any, .any, .any, .any, .any, .any, .any, .any, .any, .any, .any, .any, .any, .any, .any, .any, .any, .any]) (fun j => σ.set o (RS r)) (fun j => j) (fun j => j ≤ n + 1) (n + 1) ?_ ?_
            · exact ⟨Nat.le_refl _, by simp [Wk, vl], rfl⟩
            · intro j hj
              refine AW.seq_k fun K18 hK18 => ?_
              refine AW.regl false [79] (by rfl) fun K19 hK19 => ?_ -- region 13
              simp only [go_sem, Nat.reduceAdd, Nat.reduceEqDiff, Nat.reduceLeDiff, true_and, Option.map_none, Option.map_some, RS, hk, get_set hk, List.set_set, bs_size]
              refine hK19 _ _ ?_; try clear hK19 K19
              conv => enter [5]; simp only [setL_cons, setL_nil, List.set_cons_zero, List.set_cons_succ]
              refine AW.cond rfl (fun hc79 => ?_) (fun hc79 => ?_)
              · skip
                obtain ⟨j0, rfl⟩ : ∃ j0, j = j0 + 1 := ⟨j - 1, by simp at hc79; omega⟩
                have hjj : (((j0 + 1 : Nat) : Int) - 1) = ((j0 : Nat) : Int) := by omega
                have hixj := idxB r.b .i64 (i := j0) (by omega)
                have hxl := (r.b.getD j0 0).toNat_lt
                have hva := vl_at (l := r.b.take (n + 1)) (j := j0) (by rw [List.length_take, Nat.min_eq_left (by omega)]; omega)
                rw [getD_take (by omega)] at hva
                have hle := Nat.lt_of_le_of_lt (vl_drop (r.b.take (n + 1)) j0) hmx
                have hcv : IntKind.wrap .u64 (((r.b.getD j0 0).toNat % 128 : Nat) : Int) = (((r.b.getD j0 0).toNat % 128 : Nat) : Int) := by rw [wrap_u64m, Nat.mod_eq_of_lt (by omega)]
                have hmu := mul_u64 56 (vl ((r.b.take (n + 1)).drop (j0 + 1))) (by omega)
                have hadd : aBin prog .add 56 (u64 (vl ((r.b.take (n + 1)).drop (j0 + 1)) * 128)) (u64 ((r.b.getD j0 0).toNat % 128)) = some (u64 (vl ((r.b.take (n + 1)).drop j0))) := by
                  rw [add_u64 _ _ _ (by omega)]
                  congr 3
                  omega
                have hwj : IntKind.wrap .i64 (((j0 : Nat) : Int) - 1) = ((j0 : Nat) : Int) - 1 := wrap_i64 (by omega) (by omega)
                refine AW.skip ?_
                refine hK18 _ _ ?_; try clear hK18 K18
                refine AW.seq_k fun K20 hK20 => ?_
                refine AW.block ?_
                refine AW.lastl false [6] (by rfl) fun K hK => ?_ -- region 15
                simp only [go_sem, Nat.reduceAdd, Nat.reduceEqDiff, Nat.reduceLeDiff, true_and, Option.map_none, Option.map_some, RS, hk, get_set hk, List.set_set, bs_size, hjj, hixj, byteAV, bin_rem (show (128 : Int) ≠ 0 by decide), tmod128, hcv, hmu, hadd]
                refine hK _ _ fun env' hw => ?_
                simp only [setL_cons, setL_nil, List.set_cons_zero, List.set_cons_succ] at hw
                refine hK20 _ _ (AW.weaken hw ?_); clear hw; try clear hK20 K20
                refine AW.lastl false [7] (by rfl) fun K hK => ?_ -- region 14
                simp only [go_sem, Nat.reduceAdd, Nat.reduceEqDiff, Nat.reduceLeDiff, true_and, Option.map_none, Option.map_some, RS, hk, get_set hk, List.set_set, bs_size, hjj, hwj]
                refine hK _ _ fun env' hw => ?_
                simp only [setL_cons, setL_nil, List.set_cons_zero, List.set_cons_succ] at hw
                refine ⟨j0, by omega, by omega, ?_, rfl⟩
                refine hw.trans ?_
                simp [Wk, hwj]
              · skip
                have hj0 : j = 0 := by simp at hc79; omega
                subst hj0
                have hwn1 := wrap_add1 (a := n) (by omega)
                have hlo := sls_lo r.b .i64 (n := n + 1) (by omega)
                refine AW.exit ?_
                refine hK16 _ _ ?_; try clear hK16 K16
                refine AW.regl false [] (by rfl) fun K21 hK21 => ?_ -- region 16
                simp only [go_sem, Nat.reduceAdd, Nat.reduceEqDiff, Nat.reduceLeDiff, true_and, Option.map_none, Option.map_some, RS, hk, get_set hk, List.set_set, bs_size, hwn1, hlo]
                refine hK21 _ _ ?_; try clear hK21 K21
                conv => enter [5]; simp only [setL_cons, setL_nil, List.set_cons_zero, List.set_cons_succ, upd_none, upd_at]
                refine AW.seq_k fun K22 hK22 => ?_
                refine AW.regl false [105] (by rfl) fun K23 hK23 => ?_ -- region 17
                simp only [go_sem, Nat.reduceAdd, Nat.reduceEqDiff, Nat.reduceLeDiff, true_and, Option.map_none, Option.map_some, RS, hk, get_set hk, List.set_set, bs_size]
                refine hK23 _ _ ?_; try clear hK23 K23
                conv => enter [5]; simp only [setL_cons, setL_nil, List.set_cons_zero, List.set_cons_succ]
                refine AW.cond rfl (fun hc105 => ?_) (fun hc105 => ?_)
                · skip
                  have hm : vl (r.b.take (n + 1)) > most := by simp at hc105; omega
                  refine AW.regl false [] (by rfl) fun K24 hK24 => ?_ -- region 18
                  simp only [go_sem, Nat.reduceAdd, Nat.reduceEqDiff, Nat.reduceLeDiff, true_and, Option.map_none, Option.map_some, RS, hk, get_set hk, List.set_set, bs_size]
                  refine sC.ofR en31 (rfail_calls (σ.set o (RS (⟨r.b.drop (n + 1), r.e⟩ : Rd))) o (⟨r.b.drop (n + 1), r.e⟩ : Rd) 4 (by decide) (get_set hk)) (fun v' σ' hR => ?_)
                  obtain rfl := hR
                  simp only [go_sem, Nat.reduceAdd, Nat.reduceEqDiff, Nat.reduceLeDiff, true_and, Option.map_none, Option.map_some, RS, hk, get_set hk, List.set_set, bs_size]
                  refine hK24 _ _ ?_; try clear hK24 K24
                  conv => enter [5]; simp only [setL_cons, setL_nil, List.set_cons_zero, List.set_cons_succ]
                  refine AW.regl false [4] (by rfl) fun K25 hK25 => ?_ -- region 19
                  simp only [go_sem, Nat.reduceAdd, Nat.reduceEqDiff, Nat.reduceLeDiff, true_and, Option.map_none, Option.map_some, RS, hk, get_set hk, List.set_set, bs_size]
                  refine hK25 _ _ ?_; try clear hK25 K25
                  conv => enter [5]; simp only [setL_cons, setL_nil, List.set_cons_zero, List.set_cons_succ]
                  exact AW.ret ⟨.inr rfl, _, rfl, by rw [g4, if_pos hm]; rfl, by rw [g4, if_pos hm, g2]⟩
                · skip
                  have hm : ¬ vl (r.b.take (n + 1)) > most := by simp at hc105; omega
                  refine AW.skip ?_
                  refine hK22 _ _ ?_; try clear hK22 K22
                  refine AW.regl false [4] (by rfl) fun K26 hK26 => ?_ -- region 20
                  simp only [go_sem, Nat.reduceAdd, Nat.reduceEqDiff, Nat.reduceLeDiff, true_and, Option.map_none, Option.map_some, RS, hk, get_set hk, List.set_set, bs_size]
                  refine hK26 _ _ ?_; try clear hK26 K26
                  conv => enter [5]; simp only [setL_cons, setL_nil, List.set_cons_zero, List.set_cons_succ]
                  exact AW.ret ⟨.inr rfl, _, rfl, by rw [g4, if_neg hm], by rw [g4, if_neg hm, g2]⟩
end Go.Proofs.Try

