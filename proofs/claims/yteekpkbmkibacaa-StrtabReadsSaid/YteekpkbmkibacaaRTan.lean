import Derived.Test.YteekpkbmkibacaaRTam
import Derived.Test.YteekpkbmkibacaaREvGrid
/-! The law StrtabReads. -/
namespace Go.Proofs.Try
set_option linter.unusedSimpArgs false
set_option linter.unusedVariables false
open Go Go.Proofs.Ev
variable {Γ : List (Nat × List AV)}
theorem raw_e {r : Rd} {n : Nat} (h : (r.raw n).2.e = 0) : r.e = 0 ∧ (r.raw n).1.length ≤ n := by
  unfold Rd.raw at *
  by_cases h0 : r.e = 0
  · rw [if_neg (by simp [h0])] at *
    refine ⟨h0, ?_⟩
    split
    · simp
    · simp [List.length_take]
      omega
  · rw [if_pos h0] at h
    exact absurd h h0
theorem cnt_le : ∀ (f : Nat) (b : List UInt8), cnt f b ≤ f
  | 0, _ => Nat.le_refl _
  | f + 1, [] => by simp [cnt]
  | f + 1, x :: l => by
    rw [cnt]
    have := cnt_le f l
    split <;> omega
theorem var_use {r : Rd} {most : Nat} (h : (r.var most).2.e = 0) : (r.var most).2.b.length + 1 ≤ r.b.length := by
  unfold Rd.var at *
  by_cases h0 : r.e = 0
  · rw [if_neg (by simp [h0])] at *
    unfold varAt at *
    split at h
    · cases h
    · rename_i h1
      split at h
      · cases h
      · rename_i h2
        split at h
        · cases h
        · rename_i h3
          rw [if_neg h1, if_neg h2, if_neg h3]
          simp only [List.length_drop]
          have hc : ¬ cnt 10 r.b = 10 := fun e => h2 (.inl e)
          have := cnt_le 10 r.b
          omega
  · rw [if_pos h0] at h
    exact absurd h h0
theorem text_use {r : Rd} {most : Nat} (h : (r.text most).2.e = 0) : (r.text most).2.b.length + 1 ≤ r.b.length ∧ (r.text most).1.size ≤ most := by
  obtain ⟨h1, h2⟩ := raw_e h
  have h3 := var_use h1
  have h4 := raw_len (r.var most).2 (r.var most).1
  refine ⟨Nat.le_trans (Nat.succ_le_succ h4) h3, ?_⟩
  show (bs _).size ≤ _
  rw [bs_size]
  exact Nat.le_trans h2 (var_le r most)
theorem addL_new {w : List ByteArray} {s : ByteArray} (hf : ¬ (findS w s).isSome = true) (hs : s.size ≤ 65535) (hw : w.length < 16777215) : addL w s = w ++ [s] := by
  have ht : tooMuch w s = false := by
    unfold tooMuch
    simp only [Bool.or_eq_false_iff, decide_eq_false_iff_not]
    omega
  unfold addL
  rw [if_neg hf, ht]
  rfl
theorem fail_two {r : Rd} (h : r.e ≠ 0) : r.fail 2 = r := by
  unfold Rd.fail
  rw [if_neg h]
theorem fail_two_e (r : Rd) : (r.fail 2).e ≠ 0 := by
  unfold Rd.fail
  by_cases h0 : r.e = 0
  · rw [if_pos h0]; decide
  · rw [if_neg h0]; exact h0
/-- The two ways come to the same. -/
theorem pg_rd : ∀ (k : Nat) (w out : List ByteArray) (r : Rd), (r.e = 0 → w = out) → k + out.length ≤ 16777215 → (pgGo k w r).2 = (rdGo k out r).2 ∧ ((rdGo k out r).2.e = 0 → (pgGo k w r).1 = (rdGo k out r).1)
  | 0, w, out, r, hw, _ => ⟨rfl, hw⟩
  | k + 1, w, out, r, hw, hk => by
    by_cases h0 : r.e = 0
    · have hw := hw h0
      subst hw
      have hn : ¬ (r.e ≠ 0) := by simp [h0]
      rw [pgGo, rdGo, if_neg hn, if_neg hn]
      have e2 : (if (findS w (r.text 65535).1).isSome = true then (r.text 65535).2.fail 2 else (r.text 65535).2) = (if (r.text 65535).2.e = 0 ∧ (findS w (r.text 65535).1).isSome = true then (r.text 65535).2.fail 2 else (r.text 65535).2) := by
        by_cases hf : (findS w (r.text 65535).1).isSome = true
        · by_cases he : (r.text 65535).2.e = 0
          · rw [if_pos hf, if_pos ⟨he, hf⟩]
          · rw [if_pos hf, if_neg (fun h => he h.1), fail_two he]
        · rw [if_neg hf, if_neg (fun h => hf h.2)]
      rw [e2]
      refine pg_rd k _ _ _ (fun h => ?_) (by rw [List.length_append, List.length_singleton]; omega)
      by_cases hf : (r.text 65535).2.e = 0 ∧ (findS w (r.text 65535).1).isSome = true
      · rw [if_pos hf] at h
        exact absurd h (fail_two_e _)
      · rw [if_neg hf] at h
        exact addL_new (fun g => hf ⟨h, g⟩) (text_use h).2 (by omega)
    · rw [pgGo, rdGo, if_pos h0, if_pos h0]
      exact ⟨rfl, fun h => absurd h h0⟩
theorem rd_ok (L : Nat) : ∀ (k : Nat) (out : List ByteArray) (r : Rd), out.Nodup → (∀ s ∈ out, s.size ≤ 65535) → out.length + r.b.length ≤ L → (rdGo k out r).2.e = 0 → (rdGo k out r).1.Nodup ∧ (∀ s ∈ (rdGo k out r).1, s.size ≤ 65535) ∧ (rdGo k out r).1.length + (rdGo k out r).2.b.length ≤ L
  | 0, out, r, h1, h2, h3, _ => ⟨h1, h2, h3⟩
  | k + 1, out, r, h1, h2, h3, h => by
    by_cases h0 : r.e = 0
    · have hn : ¬ (r.e ≠ 0) := by simp [h0]
      rw [rdGo, if_neg hn] at h ⊢
      by_cases hf : (r.text 65535).2.e = 0 ∧ (findS out (r.text 65535).1).isSome = true
      · rw [if_pos hf, rd_stop (.inr (fail_two_e _))] at h
        exact absurd h (fail_two_e _)
      · rw [if_neg hf] at h ⊢
        by_cases he : (r.text 65535).2.e = 0
        · obtain ⟨g1, g2⟩ := text_use he
          refine rd_ok L k _ _ ?_ ?_ ?_ h
          · rw [List.nodup_append]
            refine ⟨h1, by simp, fun a ha b hb e => ?_⟩
            rw [List.mem_singleton] at hb
            subst hb
            subst e
            exact hf ⟨he, findS_mem ha⟩
          · intro s hs
            rcases List.mem_append.1 hs with hs | hs
            · exact h2 s hs
            · rw [List.mem_singleton] at hs
              rw [hs]
              exact g2
          · rw [List.length_append, List.length_singleton]
            omega
        · rw [rd_stop (.inr he)] at h
          exact absurd h he
    · rw [rdGo, if_pos h0] at h
      exact absurd h h0
theorem tab_same (r : Rd) : (pgTab r).2 = (rdTab r).2 ∧ ((rdTab r).2.e = 0 → (pgTab r).1 = (rdTab r).1) :=
  pg_rd _ [] [] _ (fun _ => rfl) (by have := var_le r 16777215; simpa using this)
theorem tab_ok {r : Rd} (h : (rdTab r).2.e = 0) : (rdTab r).1.Nodup ∧ (∀ s ∈ (rdTab r).1, s.size ≤ 65535) ∧ (rdTab r).1.length ≤ r.b.length := by
  have := rd_ok r.b.length (r.var 16777215).1 [] (r.var 16777215).2 List.nodup_nil (fun _ h => by cases h) (by have := var_len r 16777215; simpa using this) h
  exact ⟨this.1, this.2.1, Nat.le_trans (Nat.le_add_right _ _) this.2.2⟩
/-- What is known while the two readers are made, in whatever order. -/
def r3Inv (nl : Bool) (b : List UInt8) (i k : Nat) (env : Env) (σ : Sto) : Prop := ∃ or os : Nat, env.length = 91 ∧ env[0]? = some (rowAV 1 nl (bys b)) ∧ (1 ≤ i → env[14]? = some (rowAV 1 nl (bys b))) ∧ (2 ≤ i → env[15]? = some (.ref or 0) ∧ σ[or]? = some (RC nl ⟨b, 0⟩)) ∧ (3 ≤ i → env[3]? = some (.ref or 0)) ∧
  (1 ≤ k → env[16]? = some (rowAV 1 nl (bys b))) ∧ (2 ≤ k → env[17]? = some (str (bs b))) ∧ (3 ≤ k → env[18]? = some (.agg [str (bs b), i64 0])) ∧ (4 ≤ k → env[19]? = some (.ref os 0) ∧ σ[os]? = some (RS ⟨b, 0⟩))
theorem row_str {nl : Bool} {b : List UInt8} {s : ByteArray} : ¬ str s = rowAV 1 nl (bys b) := by
  cases b with
  | nil => cases nl <;> (intro h; cases h)
  | cons a b => intro h; cases h
theorem r3_wk {env : Env} {or os : Nat} (hl : env.length = 91) (h3 : env[3]? = some (.ref or 0)) (h4 : env[4]? = some (.ref os 0)) : Wk env ((List.replicate 91 AV.any).set 3 (.ref or 0) |>.set 4 (.ref os 0)) := by
  refine wk_of (by simp [hl]) fun t => ?_
  simp only [List.getD_eq_getElem?_getD]
  by_cases e4 : t = 4
  · subst e4
    right
    rw [h4, List.getElem?_set_self (by simp)]
  · rw [List.getElem?_set_ne (Ne.symm e4)]
    by_cases e3 : t = 3
    · subst e3
      right
      rw [h3, List.getElem?_set_self (by simp)]
    · rw [List.getElem?_set_ne (Ne.symm e3)]
      left
      rw [List.getElem?_replicate]
      split <;> rfl
/-- The texts in the end. -/
def fin (r : Rd) : List ByteArray := if (rdTab r).2.e ≠ 0 then [] else (rdTab r).1
theorem fin_pg (r : Rd) : (if (pgTab r).2.e ≠ 0 then [] else (pgTab r).1) = fin r := by
  obtain ⟨h1, h2⟩ := tab_same r
  unfold fin
  rw [h1]
  by_cases h : (rdTab r).2.e = 0
  · rw [if_neg (by simp [h]), if_neg (by simp [h]), h2 h]
  · rw [if_pos h, if_pos h]
theorem fin_ok {r : Rd} {k : Nat} (hb : r.b.length ≤ k) : OKw k (fin r) := by
  unfold fin
  by_cases h : (rdTab r).2.e = 0
  · rw [if_neg (by simp [h])]
    obtain ⟨g1, g2, g3⟩ := tab_ok h
    exact ⟨g1, Nat.le_trans g3 hb, fun s hs => Nat.le_trans (g2 s hs) (by decide)⟩
  · rw [if_pos h]
    exact ⟨List.nodup_nil, Nat.zero_le _, fun _ h => by cases h⟩
theorem tread_at (σ : Sto) (o : Nat) (nl : Bool) (r : Rd) (hb : r.b.length ≤ maxLen) (hk : σ[o]? = some (RC nl r)) : ACalls prog Γ 15 [.ref o 0] σ (fun v σ' => ∃ base nl', base[o]? = some (RC nl' (rdTab r).2) ∧ (∀ (q : Nat) x, q ≠ o → σ[q]? = some x → base[q]? = some x) ∧ v = .ref (base.length + 1) 0 ∧ σ' = base ++ tab base.length (fin r) []) := by
  refine (tread_calls σ o nl r hb hk).mono ?_
  rintro v σ' ⟨nl', ρ, rfl, rfl⟩
  refine ⟨σ.set o (RC nl' (rdTab r).2) ++ ρ, nl', so_get hk ρ, fun q x hq h => ?_, ?_, ?_⟩
  · rw [sa_get (c := x)]
    rw [List.getElem?_set_ne (Ne.symm hq)]
    exact h
  · rw [(tab_same r).1]
  · rw [fin_pg, (tab_same r).1]
theorem rread_at (base : Sto) (o : Nat) (r : Rd) (l : List ByteArray) (hb : r.b.length ≤ maxLen) (hk : base[o]? = some (RS r)) : ACalls prog Γ 16 [.ref o 0] (base ++ tab base.length l []) (fun v σ' => ∃ base2 m, base2.length = base.length ∧ base2[o]? = some (RS (rdTab r).2) ∧ (∀ (q : Nat) x, q ≠ o → base[q]? = some x → base2[q]? = some x) ∧ v = rowAV 1 true ((fin r).map str) ∧ σ' = base2 ++ tab base2.length l [.cap m 1]) := by
  refine ACalls.wres (rread_calls0 (base ++ tab base.length l []) o r hb (sa_get hk _)) ?_
  rintro v σ' ⟨m, rfl, rfl⟩
  refine ⟨rowAV 1 true ((fin r).map str), ?_, base.set o (RS (rdTab r).2), m, List.length_set, get_set hk, fun q x hq h => ?_, rfl, ?_⟩
  · unfold fin
    split
    · exact Weaker.refl _
    · exact weak_row true 1 _ _
  · rw [List.getElem?_set_ne (Ne.symm hq)]
    exact h
  · rw [sa_set hk, List.length_set, List.append_assoc]
    rfl
theorem like_on (σ τ : Sto) (l : List ByteArray) (nl : Bool) (hn : l.Nodup) (hl : l.length ≤ maxLen) : APureOn prog Γ 8 [.ref (σ.length + 1) 0, rowAV 1 nl (l.map str)] (σ ++ tab σ.length l τ) (bool true) := by
  intro τ'
  rw [tab_app]
  exact (like_calls σ (τ ++ τ') l nl hn hl).mono fun v σ' h => ⟨h.2, h.1⟩
theorem err_on (σ : Sto) (o : Nat) (nl : Bool) (r : Rd) (hk : σ[o]? = some (RC nl r)) : APureOn prog Γ 17 [.ref o 0] σ (i64 r.e) := by
  intro τ
  exact (err_calls (σ ++ τ) o nl r (sa_get hk τ)).mono fun v σ' h => ⟨h.2, h.1⟩
theorem left_on (σ : Sto) (o : Nat) (nl : Bool) (r : Rd) (hk : σ[o]? = some (RC nl r)) : APureOn prog Γ 18 [.ref o 0] σ (i64 r.b.length) := by
  intro τ
  exact (left_calls (σ ++ τ) o nl r (sa_get hk τ)).mono fun v σ' h => ⟨h.2, h.1⟩
theorem pv_ne (v : Nat) : pv v ≠ [] := by
  unfold pv pvB
  split <;> simp
theorem put_nil3 (σ τ : Sto) (l : List ByteArray) (hl : l.length ≤ 3000) (hls : ∀ s ∈ l, s.size ≤ 65560) : ACalls prog Γ 11 [.ref (σ.length + 1) 0, .nilsl] (σ ++ tab σ.length l τ) (fun r σ' => r = .slo true 1 (bys (putL l)) (σ.length + (τ.length + 3)) ∧ σ' = σ ++ tab σ.length l (τ ++ [.cap (putL l).length 1])) := by
  refine ACalls.nil1 (sz := 1) ?_ (by decide)
  rw [tab_app, tab_len]
  have := tput_calls (Γ := Γ) σ (τ ++ [.cap 0 1]) l true [] τ.length (by simp) hl hls (by simp)
  rw [List.nil_append, List.set_append_right _ _ (Nat.le_refl _), Nat.sub_self] at this
  exact this
theorem put_on (σ τ : Sto) (l : List ByteArray) (hl : l.length ≤ 3000) (hls : ∀ s ∈ l, s.size ≤ 65560) : APureOn prog Γ 11 [.ref (σ.length + 1) 0, .nilsl] (σ ++ tab σ.length l τ) (.sl 1 (bys (putL l))) := by
  intro τ'
  rw [tab_app]
  refine (put_nil3 σ (τ ++ τ') l hl hls).pure fun v σ' hR => ?_
  obtain ⟨rfl, rfl⟩ := hR
  refine ⟨?_, _, frz_bys _ (fun h => pv_ne l.length (List.append_eq_nil_iff.1 h).1) (by rw [tab_len]; exact Nat.le_refl _), rfl⟩
  have e := tab_app σ (τ ++ τ') [.cap (putL l).length 1] l
  rw [← e]
  exact List.take_left' rfl
theorem put_eq (w : List ByteArray) : bs (putL w) = ptb w w.length := by
  apply Go.WideShapes.bytes_inj
  have h := ptb_data (l := w) w.length (Nat.le_refl _)
  rw [List.take_length] at h
  simp [bs, putL, h]
theorem tup3 (a b c : AV) : aExtract 0 (.tup [a, b, c]) = some a ∧ aExtract 1 (.tup [a, b, c]) = some b ∧ aExtract 2 (.tup [a, b, c]) = some c := ⟨rfl, rfl, rfl⟩
set_option maxRecDepth 100000 in
set_option maxHeartbeats 2000000 in
theorem strtabReads_calls (nl : Bool) (b : List UInt8) (hb : b.length ≤ maxLen) (σ : Sto) : ACalls prog Γ 4 [rowAV 1 nl (bys b)] σ (fun v σ' => v = bool true) := by
  refine ACalls.of func4 rfl ?_
  simp only [ntmps4, List.length_cons, List.length_nil, Nat.reduceAdd, Nat.reduceSub, List.replicate_succ, List.replicate_zero, List.cons_append, List.nil_append]
  refine AW.regl false [2] (by rfl) fun K1 hK1 => ?_ -- region 0
  simp only [go_sem, Nat.reduceAdd, Nat.reduceEqDiff, Nat.reduceLeDiff, true_and, bys_len, len_row, one_row]
  refine hK1 _ _ ?_; try clear hK1 K1
  conv => enter [5]; simp only [setL_cons, setL_nil, List.set_cons_zero, List.set_cons_succ]
  refine AW.seq_k fun K2 hK2 => ?_
  refine AW.regl false [13] (by rfl) fun K3 hK3 => ?_ -- region 1
  simp only [go_sem, Nat.reduceAdd, Nat.reduceEqDiff, Nat.reduceLeDiff, true_and, bys_len, len_row, one_row]
  refine hK3 _ _ ?_; try clear hK3 K3
  conv => enter [5]; simp only [setL_cons, setL_nil, List.set_cons_zero, List.set_cons_succ]
  refine AW.cond rfl (fun hc13 => ?_) (fun hc13 => ?_)
  · skip
    refine AW.regl false [2] (by rfl) fun K4 hK4 => ?_ -- region 2
    simp only [go_sem, Nat.reduceAdd, Nat.reduceEqDiff, Nat.reduceLeDiff, true_and, bys_len, len_row, one_row]
    refine hK4 _ _ ?_; try clear hK4 K4
    conv => enter [5]; simp only [setL_cons, setL_nil, List.set_cons_zero, List.set_cons_succ]
    exact AW.ret ⟨.inr rfl, _, rfl, rfl⟩
  · skip
    have hbl : b.length ≤ 2000 := by simp at hc13; omega
    refine AW.skip ?_
    refine hK2 _ _ ?_; try clear hK2 K2
    refine AW.seq (AW.mono (Q := fun e env' σ' => e = .normal ∧ ∃ or os, Wk env' [.any, .any, .any, (.ref or 0), (.ref os 0), .any, .any, .any, .any, .any, .any, .any, .any, .any, .any, .any, .any, .any, .any, .any, .any, .any, .any, .any, .any, .any, .any, .any, .any, .any, .any, .any, .any, .any, .any, .any, .any, .any, .any, .any, .any, .any, .any, .any, .any, .any, .any, .any, .any, .any, .any, .any, .any, .any, .any, .any, .any, .any, .any, .any, .any, .any, .any, .any, .any, .any, .any, .any, .any, .any, .any, .any, .any, .any, .any, .any, .any, .any, .any, .any, .any, .any, .any, .any, .any, .any, .any, .any, .any, .any, .any] ∧ σ'[or]? = some (RC nl ⟨b, 0⟩) ∧ σ'[os]? = some (RS ⟨b, 0⟩)) ?_ ?_) -- region 3
    · refine AW.draw (l := [_, _, _, _, _, _, _, _]) mixed ?_
      refine ADraw.grid false [0, 1, 6] [2, 3, 4, 5] 7 (r3Inv nl b) (by kernel_rfl) (by kernel_rfl) rfl ?_ ?_ ?_ ?_
      · exact ⟨0, 0, rfl, rfl, by simp, by simp, by simp, by simp, by simp, by simp, by simp⟩
      · intro i x o h1 h2 k env1 σ1 hk hI
        obtain ⟨or, os, hl, e0, a1, a2, a3, b1, b2, b3, b4⟩ := hI
        rcases i with _ | _ | _ | i
        · simp only [List.getElem?_cons_zero, List.getElem?_cons_succ, Option.some.injEq] at h1
          subst h1
          simp only [List.getElem?_cons_zero, List.getElem?_cons_succ, Option.some.injEq] at h2
          subst h2
          simp only [ARun, aWanted, aop, opnd, List.getD_eq_getElem?_getD, Option.getD_some, aput, e0]
          refine ⟨or, os, by simpa using hl, ?_, ?_, ?_, ?_, ?_, ?_, ?_, ?_⟩ <;> simp_all [List.getElem?_set]
        · simp only [List.getElem?_cons_zero, List.getElem?_cons_succ, Option.some.injEq] at h1
          subst h1
          simp only [List.getElem?_cons_zero, List.getElem?_cons_succ, Option.some.injEq] at h2
          subst h2
          have e14 := a1 (by omega)
          simp only [ARun, aWanted, aop, opnd, List.getD_eq_getElem?_getD, Option.getD_some, aput, e14, List.map_cons, List.map_nil, List.append_nil]
          refine ⟨_, en14, read_calls σ1 nl b, ?_⟩
          rintro v σ' ⟨rfl, rfl⟩
          have hg : ∀ (o : Nat) (x : AO), σ1[o]? = some x → (σ1 ++ [RC nl ⟨b, 0⟩])[o]? = some x := fun o x h => sa_get h _
          have hn : (σ1 ++ [RC nl ⟨b, 0⟩])[σ1.length]? = some (RC nl ⟨b, 0⟩) := app_get0 σ1 _
          refine ⟨σ1.length, os, by simpa using hl, by simpa [List.getElem?_set] using e0, ?_, ?_, ?_, ?_, ?_, ?_, ?_⟩
          · simpa [List.getElem?_set] using e14
          · exact fun _ => ⟨by simp [List.getElem?_set, hl], hn⟩
          · intro h; omega
          · simpa [List.getElem?_set] using b1
          · simpa [List.getElem?_set] using b2
          · simpa [List.getElem?_set] using b3
          · exact fun h => ⟨by simpa [List.getElem?_set] using (b4 h).1, hg _ _ (b4 h).2⟩
        · simp only [List.getElem?_cons_zero, List.getElem?_cons_succ, Option.some.injEq] at h1
          subst h1
          simp only [List.getElem?_cons_zero, List.getElem?_cons_succ, Option.some.injEq] at h2
          subst h2
          have e15 := (a2 (by omega)).1
          simp only [ARun, aWanted, aop, opnd, List.getD_eq_getElem?_getD, Option.getD_some, aput, e15]
          refine ⟨or, os, by simpa using hl, ?_, ?_, ?_, ?_, ?_, ?_, ?_, ?_⟩ <;> simp_all [List.getElem?_set]
        · simp at h1
      · intro k x o h1 h2 i env1 σ1 hi hI
        obtain ⟨or, os, hl, e0, a1, a2, a3, b1, b2, b3, b4⟩ := hI
        rcases k with _ | _ | _ | _ | k
        · simp only [List.getElem?_cons_zero, List.getElem?_cons_succ, Option.some.injEq] at h1
          subst h1
          simp only [List.getElem?_cons_zero, List.getElem?_cons_succ, Option.some.injEq] at h2
          subst h2
          simp only [ARun, aWanted, aop, opnd, List.getD_eq_getElem?_getD, Option.getD_some, aput, e0]
          refine ⟨or, os, by simpa using hl, ?_, ?_, ?_, ?_, ?_, ?_, ?_, ?_⟩ <;> simp_all [List.getElem?_set]
        · simp only [List.getElem?_cons_zero, List.getElem?_cons_succ, Option.some.injEq] at h1
          subst h1
          simp only [List.getElem?_cons_zero, List.getElem?_cons_succ, Option.some.injEq] at h2
          subst h2
          have e16 := b1 (by omega)
          simp only [ARun, aWanted, aop, opnd, List.getD_eq_getElem?_getD, Option.getD_some, aput, e16, conv_row, Option.map_some]
          refine ⟨or, os, by simpa using hl, ?_, ?_, ?_, ?_, ?_, ?_, ?_, ?_⟩ <;> simp_all [List.getElem?_set]
        · simp only [List.getElem?_cons_zero, List.getElem?_cons_succ, Option.some.injEq] at h1
          subst h1
          simp only [List.getElem?_cons_zero, List.getElem?_cons_succ, Option.some.injEq] at h2
          subst h2
          have e17 := b2 (by omega)
          simp only [ARun, aWanted, aop, opnd, List.getD_eq_getElem?_getD, Option.getD_some, aput, e17, aPartsOf, List.map_cons, List.map_nil, bld43, fill_cons, fill_nil, go_sem]
          refine ⟨or, os, by simpa using hl, ?_, ?_, ?_, ?_, ?_, ?_, ?_, ?_⟩ <;> simp_all [List.getElem?_set]
        · simp only [List.getElem?_cons_zero, List.getElem?_cons_succ, Option.some.injEq] at h1
          subst h1
          simp only [List.getElem?_cons_zero, List.getElem?_cons_succ, Option.some.injEq] at h2
          subst h2
          have e18 := b3 (by omega)
          simp only [ARun, aWanted, aop, opnd, List.getD_eq_getElem?_getD, Option.getD_some, aput, e18, newVar_eq, go_sem]
          have hg : ∀ (o : Nat) (x : AO), σ1[o]? = some x → (σ1 ++ [RS ⟨b, 0⟩])[o]? = some x := fun o x h => sa_get h _
          have hn : (σ1 ++ [RS ⟨b, 0⟩])[σ1.length]? = some (RS ⟨b, 0⟩) := app_get0 σ1 _
          refine ⟨or, σ1.length, by simpa using hl, by simpa [List.getElem?_set] using e0, ?_, ?_, ?_, ?_, ?_, ?_, ?_⟩
          · simpa [List.getElem?_set] using a1
          · exact fun h => ⟨by simpa [List.getElem?_set] using (a2 h).1, hg _ _ (a2 h).2⟩
          · simpa [List.getElem?_set] using a3
          · simpa [List.getElem?_set] using b1
          · simpa [List.getElem?_set] using b2
          · simpa [List.getElem?_set] using b3
          · exact fun _ => ⟨by simp [List.getElem?_set, hl], hn⟩
        · simp at h1
      · intro o h2 env1 σ1 hI
        obtain ⟨or, os, hl, e0, a1, a2, a3, b1, b2, b3, b4⟩ := hI
        simp only [List.getElem?_cons_zero, List.getElem?_cons_succ, Option.some.injEq] at h2
        subst h2
        obtain ⟨e15, hR⟩ := a2 (by decide)
        have e3 := a3 (by decide)
        obtain ⟨e19, hS⟩ := b4 (by decide)
        simp only [ARun, aWanted, aop, opnd, List.getD_eq_getElem?_getD, Option.getD_some, aput, e19]
        refine ⟨trivial, or, os, r3_wk (by simpa using hl) (by simpa [List.getElem?_set] using e3) (by simp [List.getElem?_set, hl]), hR, hS⟩
    rintro e env' σ0 ⟨rfl, or, os, hw, hR, hS⟩
    refine AW.weaken hw ?_
    have hne : or ≠ os := fun e => by
      rw [e, hS] at hR
      simp only [Option.some.injEq, AO.cells.injEq, List.cons.injEq] at hR
      exact row_str hR.1
    refine AW.seq_k fun K6 hK6 => ?_
    refine AW.regl false [21] (by rfl) fun K7 hK7 => ?_ -- region 4
    simp only [go_sem, Nat.reduceAdd, Nat.reduceEqDiff, Nat.reduceLeDiff, true_and, bys_len, len_row, one_row]
    refine hK7 _ _ ?_; try clear hK7 K7
    conv => enter [5]; simp only [setL_cons, setL_nil, List.set_cons_zero, List.set_cons_succ]
    refine AW.cond rfl (fun hc21 => ?_) (fun hc21 => ?_)
    · skip
      exact absurd hc21 (by simp)
    · skip
      refine AW.skip ?_
      refine hK6 _ _ ?_; try clear hK6 K6
      refine AW.regl false [5, 6] (by rfl) fun K8 hK8 => ?_ -- region 6
      simp only [go_sem, Nat.reduceAdd, Nat.reduceEqDiff, Nat.reduceLeDiff, true_and, bys_len, len_row, one_row]
      refine sC.ofR en15 (tread_at σ0 or nl ⟨b, 0⟩ hb hR) (fun v' σ' hR => ?_)
      obtain ⟨base, nl1, hR1, hkeep, rfl, rfl⟩ := hR
      simp only [go_sem, Nat.reduceAdd, Nat.reduceEqDiff, Nat.reduceLeDiff, true_and, bys_len, len_row, one_row]
      refine sC.ofR en16 (rread_at base os ⟨b, 0⟩ (fin ⟨b, 0⟩) hb (hkeep os _ (Ne.symm hne) hS)) (fun v' σ' hR => ?_)
      obtain ⟨base2, m, hlen2, hS2, hkeep2, rfl, rfl⟩ := hR
      simp only [go_sem, Nat.reduceAdd, Nat.reduceEqDiff, Nat.reduceLeDiff, true_and, bys_len, len_row, one_row]
      refine hK8 _ _ ?_; try clear hK8 K8
      conv => enter [5]; simp only [setL_cons, setL_nil, List.set_cons_zero, List.set_cons_succ]
      have hR2 := hkeep2 or _ hne hR1
      obtain ⟨L, hL⟩ : ∃ z, z = fin (⟨b, 0⟩ : Rd) := ⟨_, rfl⟩
      obtain ⟨rp, hrp⟩ : ∃ z, z = (rdTab ⟨b, 0⟩).2 := ⟨_, rfl⟩
      rw [← hrp] at hR2 hS2
      rw [← hL]
      rw [← hlen2]
      have hok : OKw 2000 L := by rw [hL]; exact fin_ok hbl
      have hl2 := hok.2.1
      have hmx : L.length ≤ maxLen := by rw [maxLen_eq]; omega
      have hok2 := hok.add (s := ⟨#[111, 110, 101, 32, 109, 111, 114, 101]⟩) (by decide)
      have hl3 := hok2.2.1
      have hmx2 : (addL L ⟨#[111, 110, 101, 32, 109, 111, 114, 101]⟩).length ≤ maxLen := by rw [maxLen_eq]; omega
      have hR3 := hR2
      have hgR : (base2 ++ tab base2.length L [.cap m 1])[or]? = some (RC nl1 rp) := sa_get hR3 _
      have hgS : (base2 ++ tab base2.length L [.cap m 1])[os]? = some (RS rp) := sa_get hS2 _
      refine AW.seq_k fun K9 hK9 => ?_
      refine AW.regtdf mixed false 63 (.val (.bool (false))) (by kernel_rfl) (by rfl) ?_ ?_ -- region 7
      · skip
        cases h54 : ((rp.e == 0))
        · skip
          simp only [go_sem, Nat.reduceAdd, Nat.reduceEqDiff, Nat.reduceLeDiff, true_and, bys_len, len_row, one_row, hgS, RS, RC, List.length_append, bne_self_eq_false, bs_size, conv_sl, put_eq, h54]
          refine qC.of en8 (like_on base2 [.cap m 1] L true hok.1 hmx).here (by rfl) ?_
          simp only [go_sem, Nat.reduceAdd, Nat.reduceEqDiff, Nat.reduceLeDiff, true_and, bys_len, len_row, one_row, hgS, RS, RC, List.length_append, bne_self_eq_false, bs_size, conv_sl, put_eq, h54]
          refine qC.of en17 (err_on (base2 ++ tab base2.length L [.cap m 1]) or nl1 rp hgR).here (by rfl) ?_
          simp only [go_sem, Nat.reduceAdd, Nat.reduceEqDiff, Nat.reduceLeDiff, true_and, bys_len, len_row, one_row, hgS, RS, RC, List.length_append, bne_self_eq_false, bs_size, conv_sl, put_eq, h54]
          refine qC.of en18 (left_on (base2 ++ tab base2.length L [.cap m 1]) or nl1 rp hgR).here (by rfl) ?_
          simp only [go_sem, Nat.reduceAdd, Nat.reduceEqDiff, Nat.reduceLeDiff, true_and, bys_len, len_row, one_row, hgS, RS, RC, List.length_append, bne_self_eq_false, bs_size, conv_sl, put_eq, h54]
          try simp [upd_at, h54, bys_len, len_row, one_row, hgS, RS, RC, List.length_append, bne_self_eq_false, bs_size, conv_sl, put_eq]
        · skip
          simp only [go_sem, Nat.reduceAdd, Nat.reduceEqDiff, Nat.reduceLeDiff, true_and, bys_len, len_row, one_row, hgS, RS, RC, List.length_append, bne_self_eq_false, bs_size, conv_sl, put_eq, h54]
          refine qC.of en8 (like_on base2 [.cap m 1] L true hok.1 hmx).here (by rfl) ?_
          simp only [go_sem, Nat.reduceAdd, Nat.reduceEqDiff, Nat.reduceLeDiff, true_and, bys_len, len_row, one_row, hgS, RS, RC, List.length_append, bne_self_eq_false, bs_size, conv_sl, put_eq, h54]
          refine qC.of en17 (err_on (base2 ++ tab base2.length L [.cap m 1]) or nl1 rp hgR).here (by rfl) ?_
          simp only [go_sem, Nat.reduceAdd, Nat.reduceEqDiff, Nat.reduceLeDiff, true_and, bys_len, len_row, one_row, hgS, RS, RC, List.length_append, bne_self_eq_false, bs_size, conv_sl, put_eq, h54]
          refine qC.of en18 (left_on (base2 ++ tab base2.length L [.cap m 1]) or nl1 rp hgR).here (by rfl) ?_
          simp only [go_sem, Nat.reduceAdd, Nat.reduceEqDiff, Nat.reduceLeDiff, true_and, bys_len, len_row, one_row, hgS, RS, RC, List.length_append, bne_self_eq_false, bs_size, conv_sl, put_eq, h54]
          refine qC.of en11 (put_on base2 [.cap m 1] L (by omega) hok.2.2).here (by rfl) ?_
          simp only [go_sem, Nat.reduceAdd, Nat.reduceEqDiff, Nat.reduceLeDiff, true_and, bys_len, len_row, one_row, hgS, RS, RC, List.length_append, bne_self_eq_false, bs_size, conv_sl, put_eq, h54]
          refine qC.of en12 ((rput_calls true L (by omega) hok.2.2).on _).here (by rfl) ?_
          simp only [go_sem, Nat.reduceAdd, Nat.reduceEqDiff, Nat.reduceLeDiff, true_and, bys_len, len_row, one_row, hgS, RS, RC, List.length_append, bne_self_eq_false, bs_size, conv_sl, put_eq, h54]
          try simp [upd_at, h54, bys_len, len_row, one_row, hgS, RS, RC, List.length_append, bne_self_eq_false, bs_size, conv_sl, put_eq]
      conv => enter [5]; simp only [List.set_cons_zero, List.set_cons_succ]
      refine AW.cond rfl (fun hc63 => ?_) (fun hc63 => ?_)
      · skip
        exact absurd hc63 (by simp)
      · skip
        refine AW.skip ?_
        refine hK9 _ _ ?_; try clear hK9 K9
        refine AW.regl false [7, 8] (by rfl) fun K11 hK11 => ?_ -- region 9
        simp only [go_sem, Nat.reduceAdd, Nat.reduceEqDiff, Nat.reduceLeDiff, true_and, bys_len, len_row, one_row, exA]
        refine sC.ofR en6 (add_calls base2 [.cap m 1] L ⟨#[111, 110, 101, 32, 109, 111, 114, 101]⟩) (fun v' σ' hR => ?_)
        obtain ⟨rfl, rfl⟩ := hR
        simp only [go_sem, Nat.reduceAdd, Nat.reduceEqDiff, Nat.reduceLeDiff, true_and, bys_len, len_row, one_row, exA]
        refine hK11 _ _ ?_; try clear hK11 K11
        conv => enter [5]; simp only [setL_cons, setL_nil, List.set_cons_zero, List.set_cons_succ]
        refine AW.regl false [6, 9, 10] (by rfl) fun K12 hK12 => ?_ -- region 10
        simp only [go_sem, Nat.reduceAdd, Nat.reduceEqDiff, Nat.reduceLeDiff, true_and, bys_len, len_row, one_row, tup3]
        refine sC.of en7 ((radd_calls true L ⟨#[111, 110, 101, 32, 109, 111, 114, 101]⟩ (by omega)).on _).here (by rfl) ?_
        simp only [go_sem, Nat.reduceAdd, Nat.reduceEqDiff, Nat.reduceLeDiff, true_and, bys_len, len_row, one_row, tup3]
        refine hK12 _ _ ?_; try clear hK12 K12
        conv => enter [5]; simp only [setL_cons, setL_nil, List.set_cons_zero, List.set_cons_succ]
        refine AW.regtf false 2 (.val (.bool (true))) (by rfl) ?_ ?_ -- region 11
        · skip
          simp only [go_sem, Nat.reduceAdd, Nat.reduceEqDiff, Nat.reduceLeDiff, true_and, bys_len, len_row, one_row, beq_self_eq_true]
          refine sC.ofR en8 (like_calls base2 [.cap m 1] (addL L ⟨#[111, 110, 101, 32, 109, 111, 114, 101]⟩) true hok2.1 hmx2) (fun v' σ' hR => ?_)
          obtain ⟨rfl, rfl⟩ := hR
          simp only [go_sem, Nat.reduceAdd, Nat.reduceEqDiff, Nat.reduceLeDiff, true_and, bys_len, len_row, one_row, beq_self_eq_true]
          refine sC.of en13 (awake_calls.on _).here (by rfl) ?_
          simp only [go_sem, Nat.reduceAdd, Nat.reduceEqDiff, Nat.reduceLeDiff, true_and, bys_len, len_row, one_row, beq_self_eq_true]
          try simp [upd_at, bys_len, len_row, one_row, beq_self_eq_true]
        conv => enter [5]; simp only [List.set_cons_zero, List.set_cons_succ]
        exact AW.ret ⟨.inr rfl, _, rfl, rfl⟩
end Go.Proofs.Try

