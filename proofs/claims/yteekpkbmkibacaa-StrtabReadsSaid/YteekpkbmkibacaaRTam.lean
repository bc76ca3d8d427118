import Derived.Test.YteekpkbmkibacaaRTal
import Derived.Test.YteekpkbmkibacaaREvChain
/-! Tables that are read. -/
namespace Go.Proofs.Try
set_option linter.unusedSimpArgs false
set_option linter.unusedVariables false
open Go Go.Proofs.Ev
variable {Γ : List (Nat × List AV)}
/-- The document's way: texts that come, one after the other. -/
def rdGo : Nat → List ByteArray → Rd → List ByteArray × Rd
  | 0, out, r => (out, r)
  | k + 1, out, r => if r.e ≠ 0 then (out, r) else rdGo k (out ++ [(r.text 65535).1]) (if (r.text 65535).2.e = 0 ∧ (findS out (r.text 65535).1).isSome = true then (r.text 65535).2.fail 2 else (r.text 65535).2)
/-- The program's way. -/
def pgGo : Nat → List ByteArray → Rd → List ByteArray × Rd
  | 0, w, r => (w, r)
  | k + 1, w, r => if r.e ≠ 0 then (w, r) else pgGo k (addL w (r.text 65535).1) (if (findS w (r.text 65535).1).isSome = true then (r.text 65535).2.fail 2 else (r.text 65535).2)
theorem ACalls.wargs {P : Program} {Γ : List (Nat × List AV)} {f : FuncId} {args args' : List AV} {σ : Sto} {R : AV → Sto → Prop} (hw : ∀ C xs, RelL C args xs → RelL C args' xs) (h : ACalls P Γ f args' σ R) : ACalls P Γ f args σ R := fun C xs h1 h2 h3 h4 => h C xs h1 h2 h3 (hw C xs h4)
theorem ACalls.wres {P : Program} {Γ : List (Nat × List AV)} {f : FuncId} {args : List AV} {σ : Sto} {R R' : AV → Sto → Prop} (h : ACalls P Γ f args σ R) (hw : ∀ v σ', R v σ' → ∃ v', Weaker v v' ∧ R' v' σ') : ACalls P Γ f args σ R' := by
  intro C xs h1 h2 h3 h4
  refine (h C xs h1 h2 h3 h4).mono ?_
  rintro e w' ⟨D, x, v, k1, k2, k3, k4, k5, k6⟩
  obtain ⟨v', g1, g2⟩ := hw v D.σ k6
  exact ⟨D, x, v', k1, k2, k3, k4, g1 D x k5, g2⟩
/-- Find, asked of a row that is appended to. -/
theorem rfind_slo (σ : Sto) (l : List ByteArray) (k : Nat) (s : ByteArray) (hl : l.length ≤ maxLen) : ACalls prog Γ 19 [.slo true 1 (l.map str) k, str s] σ (fun v σ' => σ' = σ ∧ v = i64 (fR l s)) :=
  ACalls.wargs (fun C xs h => by
    match xs, h with
    | [x, y], h => exact ⟨weak_row true 1 (l.map str) k C x h.1, h.2⟩) (rfind_calls true l s hl σ)
theorem so_get {σ : Sto} {o : Nat} {c a : AO} (hk : σ[o]? = some c) (l : Sto) : (σ.set o a ++ l)[o]? = some a := by
  have h := (List.getElem?_eq_some_iff.1 hk).1
  rw [List.getElem?_append_left (by simpa using h)]
  simp [h]
theorem so_set {σ : Sto} {o : Nat} {c a b : AO} (hk : σ[o]? = some c) (l : Sto) : (σ.set o a ++ l).set o b = σ.set o b ++ l := by
  have h := (List.getElem?_eq_some_iff.1 hk).1
  rw [List.set_append_left _ _ (by simpa using h), List.set_set]
theorem so_get0 {σ : Sto} {o : Nat} {a : AO} (x : AO) (l : Sto) : (σ.set o a ++ x :: l)[σ.length]? = some x := by
  have := app_get0 (σ.set o a) (x :: l)
  rw [List.length_set] at this
  exact this
theorem so_set0 {σ : Sto} {o : Nat} {a : AO} (x y : AO) (l : Sto) : (σ.set o a ++ x :: l).set σ.length y = σ.set o a ++ y :: l := by
  have := app_set0 (σ.set o a) (x :: l) y
  rw [List.length_set] at this
  exact this
theorem var_le (r : Rd) (most : Nat) : (r.var most).1 ≤ most := by
  unfold Rd.var varAt
  split
  · exact Nat.zero_le _
  · split
    · exact Nat.zero_le _
    · split
      · exact Nat.zero_le _
      · split
        · exact Nat.zero_le _
        · rename_i h
          simp only at h ⊢
          omega
theorem text_len (r : Rd) (most : Nat) : (r.text most).2.b.length ≤ r.b.length := Nat.le_trans (raw_len _ _) (var_len r most)
theorem rd_nxt {k n : Nat} {out : List ByteArray} {r1 r2 : Rd} {s : ByteArray} {r : List ByteArray × Rd} (hk : k < n) (he : r1.e = 0) (hs : (r1.text 65535).1 = s) (h2 : r2 = if (r1.text 65535).2.e = 0 ∧ (findS out s).isSome = true then (r1.text 65535).2.fail 2 else (r1.text 65535).2) (h : rdGo (n - k) out r1 = r) : rdGo (n - (k + 1)) (out ++ [s]) r2 = r := by
  rw [← h, show n - k = (n - (k + 1)) + 1 by omega, rdGo, if_neg (by simp [he]), hs, h2]
theorem rd_stop {k : Nat} {out : List ByteArray} {r : Rd} (h : k = 0 ∨ r.e ≠ 0) : rdGo k out r = (out, r) := by
  cases k with
  | zero => rfl
  | succ k => rw [rdGo, if_pos (by rcases h with h | h; omega; exact h)]
theorem pg_nxt {k : Nat} {w : List ByteArray} {r1 r2 : Rd} {s : ByteArray} {r : List ByteArray × Rd} (he : r1.e = 0) (hs : (r1.text 65535).1 = s) (h2 : r2 = if (findS w s).isSome = true then (r1.text 65535).2.fail 2 else (r1.text 65535).2) (h : pgGo (k + 1) w r1 = r) : pgGo k (addL w s) r2 = r := by
  rw [← h, pgGo, if_neg (by simp [he]), hs, h2]
theorem pg_stop {k : Nat} {w : List ByteArray} {r : Rd} (h : k = 0 ∨ r.e ≠ 0) : pgGo k w r = (w, r) := by
  cases k with
  | zero => rfl
  | succ k => rw [pgGo, if_pos (by rcases h with h | h; omega; exact h)]
/-- What the document's table comes to. -/
def rdTab (r : Rd) : List ByteArray × Rd := rdGo (r.var 16777215).1 [] (r.var 16777215).2
theorem wrap_u64s {n : Nat} (h : n + 1 < 18446744073709551616) : IntKind.wrap .u64 (((n : Nat) : Int) + 1) = ((n + 1 : Nat) : Int) := by
  rw [show ((n : Nat) : Int) + 1 = ((n + 1 : Nat) : Int) by omega, wrap_u64 h]
theorem sa_get {σ : Sto} {o : Nat} {c : AO} (hk : σ[o]? = some c) (l : Sto) : (σ ++ l)[o]? = some c := by
  have h := (List.getElem?_eq_some_iff.1 hk).1
  rw [List.getElem?_append_left h]
  exact hk
theorem sa_set {σ : Sto} {o : Nat} {c b : AO} (hk : σ[o]? = some c) (l : Sto) : (σ ++ l).set o b = σ.set o b ++ l := by
  have h := (List.getElem?_eq_some_iff.1 hk).1
  exact List.set_append_left _ _ h
def pgTab (r : Rd) : List ByteArray × Rd := pgGo (r.var 16777215).1 [] (r.var 16777215).2
theorem wrap_u64p {n : Nat} (h : n < 18446744073709551616) : IntKind.wrap .u64 (((n + 1 : Nat) : Int) - 1) = ((n : Nat) : Int) := by
  rw [show ((n + 1 : Nat) : Int) - 1 = ((n : Nat) : Int) by omega, wrap_u64 h]
theorem find_in (σ : Sto) (o : Nat) (a : AO) (w : List ByteArray) (s : ByteArray) : ACalls prog Γ 21 [.ref (σ.length + 1) 0, str s] (σ.set o a ++ tab σ.length w []) (fun v σ' => σ' = σ.set o a ++ tab σ.length w [] ∧ v = .tup [i64 (fdI w s), bool (findS w s).isSome]) := by
  have h := find_calls (Γ := Γ) (σ.set o a) [] w s
  rw [List.length_set] at h
  exact h
theorem add_in (σ : Sto) (o : Nat) (a : AO) (w : List ByteArray) (s : ByteArray) : ACalls prog Γ 6 [.ref (σ.length + 1) 0, str s] (σ.set o a ++ tab σ.length w []) (fun v σ' => v = .tup [i64 (addI w s), i64 (addE w s)] ∧ σ' = σ.set o a ++ tab σ.length (addL w s) []) := by
  have h := add_calls (Γ := Γ) (σ.set o a) [] w s
  rw [List.length_set] at h
  exact h
set_option maxRecDepth 100000 in
theorem rtext_calls (σ : Sto) (o : Nat) (r : Rd) (most : Nat) (hb : r.b.length ≤ maxLen) (hk : σ[o]? = some (RS r)) : ACalls prog Γ 30 [.ref o 0, u64 most] σ (fun v σ' => v = str (r.text most).1 ∧ σ' = σ.set o (RS (r.text most).2)) := by
  refine ACalls.of func30 rfl ?_
  simp only [ntmps30, List.length_cons, List.length_nil, Nat.reduceAdd, Nat.reduceSub, List.replicate_succ, List.replicate_zero, List.cons_append, List.nil_append]
  have hv := var_len r most
  refine AW.regl false [4] (by rfl) fun K1 hK1 => ?_ -- region 0
  simp only [go_sem, Nat.reduceAdd, Nat.reduceEqDiff, Nat.reduceLeDiff, true_and, Option.map_none, Option.map_some, RS, hk, get_set hk, List.set_set, bs_size]
  refine hK1 _ _ ?_; try clear hK1 K1
  conv => enter [5]; simp only [setL_cons, setL_nil, List.set_cons_zero, List.set_cons_succ]
  refine AW.regl false [4] (by rfl) fun K2 hK2 => ?_ -- region 1
  simp only [go_sem, Nat.reduceAdd, Nat.reduceEqDiff, Nat.reduceLeDiff, true_and, Option.map_none, Option.map_some, RS, hk, get_set hk, List.set_set, bs_size]
  refine sC.ofR en29 (rvar_calls σ o r most hb hk) (fun v' σ' hR => ?_)
  obtain ⟨rfl, rfl⟩ := hR
  simp only [go_sem, Nat.reduceAdd, Nat.reduceEqDiff, Nat.reduceLeDiff, true_and, Option.map_none, Option.map_some, RS, hk, get_set hk, List.set_set, bs_size]
  refine sC.ofR en34 (rraw_calls (σ.set o (RS (r.var most).2)) o (r.var most).2 (r.var most).1 (Nat.le_trans hv hb) (get_set hk)) (fun v' σ' hR => ?_)
  obtain ⟨rfl, rfl⟩ := hR
  simp only [go_sem, Nat.reduceAdd, Nat.reduceEqDiff, Nat.reduceLeDiff, true_and, Option.map_none, Option.map_some, RS, hk, get_set hk, List.set_set, bs_size]
  refine hK2 _ _ ?_; try clear hK2 K2
  conv => enter [5]; simp only [setL_cons, setL_nil, List.set_cons_zero, List.set_cons_succ]
  exact AW.ret ⟨.inr rfl, _, rfl, rfl, rfl⟩

set_option maxRecDepth 100000 in
set_option maxHeartbeats 1000000 in
theorem rread_calls0 (σ : Sto) (o : Nat) (r : Rd) (hb : r.b.length ≤ maxLen) (hk : σ[o]? = some (RS r)) : ACalls prog Γ 16 [.ref o 0] σ (fun v σ' => ∃ m, v = (if (rdTab r).2.e ≠ 0 then .nilsl else .slo true 1 ((rdTab r).1.map str) σ.length) ∧ σ' = σ.set o (RS (rdTab r).2) ++ [.cap m 1]) := by
  refine ACalls.of func16 rfl ?_
  simp only [ntmps16, List.length_cons, List.length_nil, Nat.reduceAdd, Nat.reduceSub, List.replicate_succ, List.replicate_zero, List.cons_append, List.nil_append]
  have hvl := var_len r 16777215
  have hve := var_le r 16777215
  refine AW.regl false [2] (by rfl) fun K1 hK1 => ?_ -- region 0
  simp only [go_sem, Nat.reduceAdd, Nat.reduceEqDiff, Nat.reduceLeDiff, true_and, Option.map_none, Option.map_some, RS, hk, get_set hk, so_get hk, so_set hk, so_get0, so_set0, List.set_set, bs_size]
  refine hK1 _ _ ?_; try clear hK1 K1
  conv => enter [5]; simp only [setL_cons, setL_nil, List.set_cons_zero, List.set_cons_succ]
  refine AW.regl false [3] (by rfl) fun K2 hK2 => ?_ -- region 1
  simp only [go_sem, Nat.reduceAdd, Nat.reduceEqDiff, Nat.reduceLeDiff, true_and, Option.map_none, Option.map_some, RS, hk, get_set hk, so_get hk, so_set hk, so_get0, so_set0, List.set_set, bs_size]
  refine sC.ofR en29 (rvar_calls σ o r 16777215 hb hk) (fun v' σ' hR => ?_)
  obtain ⟨rfl, rfl⟩ := hR
  simp only [go_sem, Nat.reduceAdd, Nat.reduceEqDiff, Nat.reduceLeDiff, true_and, Option.map_none, Option.map_some, RS, hk, get_set hk, so_get hk, so_set hk, so_get0, so_set0, List.set_set, bs_size]
  refine hK2 _ _ ?_; try clear hK2 K2
  conv => enter [5]; simp only [setL_cons, setL_nil, List.set_cons_zero, List.set_cons_succ]
  refine AW.regl false [4] (by rfl) fun K3 hK3 => ?_ -- region 2
  simp only [go_sem, Nat.reduceAdd, Nat.reduceEqDiff, Nat.reduceLeDiff, true_and, Option.map_none, Option.map_some, RS, hk, get_set hk, so_get hk, so_set hk, so_get0, so_set0, List.set_set, bs_size]
  refine hK3 _ _ ?_; try clear hK3 K3
  conv => enter [5]; simp only [setL_cons, setL_nil, List.set_cons_zero, List.set_cons_succ]
  refine AW.cap 1 ?_
  refine AW.ownT 4 σ.length rfl (so_get0 _ _) (by decide) ?_
  simp only [List.set_cons_zero, List.set_cons_succ]
  refine AW.seq_k fun K4 hK4 => ?_
  refine AW.regl false [5] (by rfl) fun K5 hK5 => ?_ -- region 3
  simp only [go_sem, Nat.reduceAdd, Nat.reduceEqDiff, Nat.reduceLeDiff, true_and, Option.map_none, Option.map_some, RS, hk, get_set hk, so_get hk, so_set hk, so_get0, so_set0, List.set_set, bs_size]
  refine hK5 _ _ ?_; try clear hK5 K5
  conv => enter [5]; simp only [setL_cons, setL_nil, List.set_cons_zero, List.set_cons_succ]
  refine AW.block ?_
  refine AW.loop_wk (α := List ByteArray × Rd) (fun z => [(.ref o 0), .any, .any, (u64 (r.var 16777215).1), (.slo true 1 (z.1.map str) σ.length), (u64 z.1.length), .any, .any, .any, .any, .any, .any, .any, .any, .any, .any, .any, .any, .any, .any, .any, .any, .any, .any, .any, .any, .any, .any, .any, .any, .any, .any, .any, .any, .any, .any, .any, .any, .any, .any, .any, .any, .any, .any, .any, .any]) (fun z => σ.set o (RS z.2) ++ [.cap z.1.length 1]) (fun z => (r.var 16777215).1 - z.1.length) (fun z => z.1.length ≤ (r.var 16777215).1 ∧ z.2.b.length ≤ maxLen ∧ rdGo ((r.var 16777215).1 - z.1.length) z.1 z.2 = rdTab r) ([], (r.var 16777215).2) ?_ ?_
  · exact ⟨⟨Nat.zero_le _, Nat.le_trans hvl hb, rfl⟩, by simp [Wk], rfl⟩
  · rintro ⟨out, r1⟩ ⟨hol, hb1, hgo⟩
    simp only at hol hb1 hgo ⊢
    refine AW.seq_k fun K6 hK6 => ?_
    refine AW.regtf false 18 (.val (.bool ((decide (((out.length : Nat) : Int) < (((r.var 16777215).1 : Nat) : Int))) && (r1.e == 0)))) (by rfl) ?_ ?_ -- region 4
    · skip
      cases h11 : ((decide (((out.length : Nat) : Int) < (((r.var 16777215).1 : Nat) : Int))))
      · skip
        simp only [go_sem, Nat.reduceAdd, Nat.reduceEqDiff, Nat.reduceLeDiff, true_and, Option.map_none, Option.map_some, RS, hk, get_set hk, so_get hk, so_set hk, so_get0, so_set0, List.set_set, bs_size, h11]
        try simp [upd_at, h11, Option.map_none, Option.map_some, RS, hk, get_set hk, so_get hk, so_set hk, so_get0, so_set0, List.set_set, bs_size]
      · skip
        simp only [go_sem, Nat.reduceAdd, Nat.reduceEqDiff, Nat.reduceLeDiff, true_and, Option.map_none, Option.map_some, RS, hk, get_set hk, so_get hk, so_set hk, so_get0, so_set0, List.set_set, bs_size, h11]
        try simp [upd_at, h11, Option.map_none, Option.map_some, RS, hk, get_set hk, so_get hk, so_set hk, so_get0, so_set0, List.set_set, bs_size]
    conv => enter [5]; simp only [List.set_cons_zero, List.set_cons_succ]
    refine AW.cond rfl (fun hc18 => ?_) (fun hc18 => ?_)
    · skip
      have hcc : out.length < (r.var 16777215).1 ∧ r1.e = 0 := by simpa using hc18
      have hlt := hcc.1
      have he1 := hcc.2
      have hlt2 : out.length + 1 < 18446744073709551616 := by omega
      refine AW.skip ?_
      refine hK6 _ _ ?_; try clear hK6 K6
      refine AW.seq_k fun K8 hK8 => ?_
      refine AW.block ?_
      refine AW.regl false [6] (by rfl) fun K9 hK9 => ?_ -- region 6
      simp only [go_sem, Nat.reduceAdd, Nat.reduceEqDiff, Nat.reduceLeDiff, true_and, Option.map_none, Option.map_some, RS, hk, get_set hk, so_get hk, so_set hk, so_get0, so_set0, List.set_set, bs_size]
      refine sC.ofR en30 (rtext_calls (σ.set o (RS r1) ++ [.cap out.length 1]) o r1 65535 hb1 (so_get hk _)) (fun v' σ' hR => ?_)
      obtain ⟨rfl, rfl⟩ := hR
      simp only [go_sem, Nat.reduceAdd, Nat.reduceEqDiff, Nat.reduceLeDiff, true_and, Option.map_none, Option.map_some, RS, hk, get_set hk, so_get hk, so_set hk, so_get0, so_set0, List.set_set, bs_size]
      refine hK9 _ _ ?_; try clear hK9 K9
      conv => enter [5]; simp only [setL_cons, setL_nil, List.set_cons_zero, List.set_cons_succ]
      obtain ⟨s, hs⟩ : ∃ z, (r1.text 65535).1 = z := ⟨_, rfl⟩
      obtain ⟨r2, hr2⟩ : ∃ z, (r1.text 65535).2 = z := ⟨_, rfl⟩
      have hb2 : r2.b.length ≤ maxLen := by rw [← hr2]; exact Nat.le_trans (text_len r1 _) hb1
      rw [hs, hr2]
      refine AW.mid (α := Rd) (fun z => [(.ref o 0), .any, .any, (u64 (r.var 16777215).1), (.slo true 1 (out.map str) σ.length), (u64 out.length), (str s), .any, .any, .any, .any, .any, .any, .any, .any, .any, .any, .any, .any, .any, .any, .any, .any, .any, .any, .any, .any, .any, .any, .any, .any, .any, .any, .any, .any, .any, .any, .any, .any, .any, .any, .any, .any, .any, .any, .any]) (fun z => σ.set o (RS z) ++ [.cap out.length 1]) (fun z => z = if r2.e = 0 ∧ (findS out s).isSome = true then r2.fail 2 else r2) ?_ ?_
      · skip
        refine AW.regtf false 33 (.val (.bool ((r2.e == 0) && ((findS out s).isSome)))) (by rfl) ?_ ?_ -- region 7
        · skip
          cases h27 : ((r2.e == 0))
          · skip
            simp only [go_sem, Nat.reduceAdd, Nat.reduceEqDiff, Nat.reduceLeDiff, true_and, Option.map_none, Option.map_some, RS, hk, get_set hk, so_get hk, so_set hk, so_get0, so_set0, List.set_set, bs_size, fR_ge, h27]
            try simp [upd_at, h27, Option.map_none, Option.map_some, RS, hk, get_set hk, so_get hk, so_set hk, so_get0, so_set0, List.set_set, bs_size, fR_ge]
          · skip
            simp only [go_sem, Nat.reduceAdd, Nat.reduceEqDiff, Nat.reduceLeDiff, true_and, Option.map_none, Option.map_some, RS, hk, get_set hk, so_get hk, so_set hk, so_get0, so_set0, List.set_set, bs_size, fR_ge, h27]
            refine sC.ofR en19 (rfind_slo (σ.set o (RS r2) ++ [.cap out.length 1]) out σ.length s (by rw [maxLen_eq]; omega)) (fun v' σ' hR => ?_)
            obtain ⟨rfl, rfl⟩ := hR
            simp only [go_sem, Nat.reduceAdd, Nat.reduceEqDiff, Nat.reduceLeDiff, true_and, Option.map_none, Option.map_some, RS, hk, get_set hk, so_get hk, so_set hk, so_get0, so_set0, List.set_set, bs_size, fR_ge, h27]
            try simp [upd_at, h27, Option.map_none, Option.map_some, RS, hk, get_set hk, so_get hk, so_set hk, so_get0, so_set0, List.set_set, bs_size, fR_ge]
        conv => enter [5]; simp only [List.set_cons_zero, List.set_cons_succ]
        refine AW.cond rfl (fun hc33 => ?_) (fun hc33 => ?_)
        · skip
          have hdup : r2.e = 0 ∧ (findS out s).isSome = true := by simpa using hc33
          refine AW.lastl false [] (by rfl) fun K hK => ?_ -- region 8
          simp only [go_sem, Nat.reduceAdd, Nat.reduceEqDiff, Nat.reduceLeDiff, true_and, Option.map_none, Option.map_some, RS, hk, get_set hk, so_get hk, so_set hk, so_get0, so_set0, List.set_set, bs_size]
          refine sC.ofR en31 (rfail_calls (σ.set o (RS r2) ++ [.cap out.length 1]) o r2 2 (by decide) (so_get hk _)) (fun v' σ' hR => ?_)
          obtain rfl := hR
          simp only [go_sem, Nat.reduceAdd, Nat.reduceEqDiff, Nat.reduceLeDiff, true_and, Option.map_none, Option.map_some, RS, hk, get_set hk, so_get hk, so_set hk, so_get0, so_set0, List.set_set, bs_size]
          refine hK _ _ fun env' hw => ?_
          simp only [setL_cons, setL_nil, List.set_cons_zero, List.set_cons_succ] at hw
          first
            | exact ⟨r2.fail 2, (if_pos hdup).symm, (hw.trans (by simp [Wk])), rfl⟩
            | exact ⟨r2, (if_neg hdup).symm, (hw.trans (by simp [Wk])), rfl⟩
        · skip
          have hdup : ¬ (r2.e = 0 ∧ (findS out s).isSome = true) := by simpa using hc33
          refine AW.skip ?_
          first
            | exact ⟨r2.fail 2, (if_pos hdup).symm, (by simp [Wk]), rfl⟩
            | exact ⟨r2, (if_neg hdup).symm, (by simp [Wk]), rfl⟩
      · skip
        rintro r3 hr3
        have hb3 : r3.b.length ≤ maxLen := by
          rw [hr3]
          split
          · exact Nat.le_trans (fail_len _ _) hb2
          · exact hb2
        have hap := ap_at (σ.set o (RS r3) ++ [.cap out.length 1]) out (by omega) (str s) σ.length
        refine AW.lastl false [4] (by rfl) fun K hK => ?_ -- region 9
        simp only [go_sem, Nat.reduceAdd, Nat.reduceEqDiff, Nat.reduceLeDiff, true_and, Option.map_none, Option.map_some, RS, hk, get_set hk, so_get hk, so_set hk, so_get0, so_set0, List.set_set, bs_size, row1_22 _ (str s) rfl rfl, hap]
        refine hK _ _ fun env' hw => ?_
        simp only [setL_cons, setL_nil, List.set_cons_zero, List.set_cons_succ] at hw
        refine hK8 _ _ (AW.weaken hw ?_); clear hw; try clear hK8 K8
        refine AW.lastl false [5] (by rfl) fun K hK => ?_ -- region 5
        simp only [go_sem, Nat.reduceAdd, Nat.reduceEqDiff, Nat.reduceLeDiff, true_and, Option.map_none, Option.map_some, RS, hk, get_set hk, so_get hk, so_set hk, so_get0, so_set0, List.set_set, bs_size]
        refine hK _ _ fun env' hw => ?_
        simp only [setL_cons, setL_nil, List.set_cons_zero, List.set_cons_succ] at hw
        refine ⟨(out ++ [s], r3), by simp only [List.length_append, List.length_singleton]; omega, ⟨by simp only [List.length_append, List.length_singleton]; omega, hb3, ?_⟩, ?_, by simp⟩
        · simp only [List.length_append, List.length_singleton]
          exact rd_nxt hlt he1 hs (by rw [hr2]; exact hr3) hgo
        · refine hw.trans ?_
          simp [Wk, wrap_u64s hlt2]
    · skip
      have hfin : rdTab r = (out, r1) := by
        rw [← hgo]
        refine rd_stop ?_
        simp only [Bool.and_eq_false_iff, decide_eq_false_iff_not, beq_eq_false_iff_ne, ne_eq] at hc18
        rcases hc18 with h | h
        · exact .inl (by omega)
        · exact .inr h
      refine AW.exit ?_
      refine hK4 _ _ ?_; try clear hK4 K4
      refine AW.seq_k fun K12 hK12 => ?_
      refine AW.regl false [44] (by rfl) fun K13 hK13 => ?_ -- region 10
      simp only [go_sem, Nat.reduceAdd, Nat.reduceEqDiff, Nat.reduceLeDiff, true_and, Option.map_none, Option.map_some, RS, hk, get_set hk, so_get hk, so_set hk, so_get0, so_set0, List.set_set, bs_size]
      refine hK13 _ _ ?_; try clear hK13 K13
      conv => enter [5]; simp only [setL_cons, setL_nil, List.set_cons_zero, List.set_cons_succ]
      refine AW.cond rfl (fun hc44 => ?_) (fun hc44 => ?_)
      · skip
        have he : r1.e ≠ 0 := by simpa using hc44
        refine AW.regl false [2] (by rfl) fun K14 hK14 => ?_ -- region 11
        simp only [go_sem, Nat.reduceAdd, Nat.reduceEqDiff, Nat.reduceLeDiff, true_and, Option.map_none, Option.map_some, RS, hk, get_set hk, so_get hk, so_set hk, so_get0, so_set0, List.set_set, bs_size]
        refine hK14 _ _ ?_; try clear hK14 K14
        conv => enter [5]; simp only [setL_cons, setL_nil, List.set_cons_zero, List.set_cons_succ]
        exact AW.ret ⟨.inr rfl, _, rfl, _, by rw [hfin]; exact (if_pos he).symm, by rw [hfin]⟩
      · skip
        have he : ¬ r1.e ≠ 0 := by simpa using hc44
        refine AW.skip ?_
        refine hK12 _ _ ?_; try clear hK12 K12
        refine AW.regl false [2] (by rfl) fun K15 hK15 => ?_ -- region 12
        simp only [go_sem, Nat.reduceAdd, Nat.reduceEqDiff, Nat.reduceLeDiff, true_and, Option.map_none, Option.map_some, RS, hk, get_set hk, so_get hk, so_set hk, so_get0, so_set0, List.set_set, bs_size]
        refine hK15 _ _ ?_; try clear hK15 K15
        conv => enter [5]; simp only [setL_cons, setL_nil, List.set_cons_zero, List.set_cons_succ]
        exact AW.ret ⟨.inr rfl, _, rfl, _, by rw [hfin]; exact (if_neg he).symm, by rw [hfin]⟩

set_option maxRecDepth 100000 in
set_option maxHeartbeats 1000000 in
theorem tread_calls (σ : Sto) (o : Nat) (nl : Bool) (r : Rd) (hb : r.b.length ≤ maxLen) (hk : σ[o]? = some (RC nl r)) : ACalls prog Γ 15 [.ref o 0] σ (fun v σ' => ∃ nl' ρ, v = .ref ((σ.set o (RC nl' (pgTab r).2) ++ ρ).length + 1) 0 ∧ σ' = (σ.set o (RC nl' (pgTab r).2) ++ ρ) ++ tab (σ.set o (RC nl' (pgTab r).2) ++ ρ).length (if (pgTab r).2.e ≠ 0 then [] else (pgTab r).1) []) := by
  refine ACalls.of func15 rfl ?_
  simp only [ntmps15, List.length_cons, List.length_nil, Nat.reduceAdd, Nat.reduceSub, List.replicate_succ, List.replicate_zero, List.cons_append, List.nil_append]
  have hvl := var_len r 16777215
  have hve := var_le r 16777215
  refine AW.regl false [2] (by rfl) fun K1 hK1 => ?_ -- region 0
  simp only [go_sem, Nat.reduceAdd, Nat.reduceEqDiff, Nat.reduceLeDiff, true_and, Option.map_none, Option.map_some, exA, sa_set hk, so_set hk, List.set_set]
  refine hK1 _ _ ?_; try clear hK1 K1
  conv => enter [5]; simp only [setL_cons, setL_nil, List.set_cons_zero, List.set_cons_succ]
  refine AW.regl false [3] (by rfl) fun K2 hK2 => ?_ -- region 1
  simp only [go_sem, Nat.reduceAdd, Nat.reduceEqDiff, Nat.reduceLeDiff, true_and, Option.map_none, Option.map_some, exA, sa_set hk, so_set hk, List.set_set]
  refine sC.ofR en5 (new_calls σ) (fun v' σ' hR => ?_)
  obtain ⟨rfl, rfl⟩ := hR
  simp only [go_sem, Nat.reduceAdd, Nat.reduceEqDiff, Nat.reduceLeDiff, true_and, Option.map_none, Option.map_some, exA, sa_set hk, so_set hk, List.set_set]
  refine hK2 _ _ ?_; try clear hK2 K2
  conv => enter [5]; simp only [setL_cons, setL_nil, List.set_cons_zero, List.set_cons_succ]
  refine own_tab σ ?_
  refine AW.seq_k fun K3 hK3 => ?_
  refine AW.regl false [4] (by rfl) fun K4 hK4 => ?_ -- region 2
  simp only [go_sem, Nat.reduceAdd, Nat.reduceEqDiff, Nat.reduceLeDiff, true_and, Option.map_none, Option.map_some, exA, sa_set hk, so_set hk, List.set_set]
  refine sC.ofR en26 (var_calls (σ ++ tab σ.length [] []) o nl r 16777215 hb (sa_get hk _)) (fun v' σ' hR => ?_)
  obtain ⟨nl2, rfl, rfl⟩ := hR
  simp only [go_sem, Nat.reduceAdd, Nat.reduceEqDiff, Nat.reduceLeDiff, true_and, Option.map_none, Option.map_some, exA, sa_set hk, so_set hk, List.set_set]
  refine hK4 _ _ ?_; try clear hK4 K4
  conv => enter [5]; simp only [setL_cons, setL_nil, List.set_cons_zero, List.set_cons_succ]
  refine AW.block ?_
  refine AW.loop_wk (α := Nat × List ByteArray × Bool × Rd) (fun z => [(.ref o 0), .any, .any, (.ref (σ.length + 1) 0), (u64 z.1), .any, .any, .any, .any, .any, .any, .any, .any, .any, .any, .any, .any, .any, .any, .any, .any, .any, .any, .any, .any, .any, .any, .any, .any, .any, .any, .any, .any, .any, .any, .any, .any, .any, .any]) (fun z => σ.set o (RC z.2.2.1 z.2.2.2) ++ tab σ.length z.2.1 []) (fun z => z.1) (fun z => z.1 ≤ 16777215 ∧ z.2.2.2.b.length ≤ maxLen ∧ pgGo z.1 z.2.1 z.2.2.2 = pgTab r) ((r.var 16777215).1, [], nl2, (r.var 16777215).2) ?_ ?_
  · exact ⟨⟨hve, Nat.le_trans hvl hb, rfl⟩, by simp [Wk], rfl⟩
  · rintro ⟨k, w, nl1, r1⟩ ⟨hk16, hb1, hgo⟩
    simp only at hk16 hb1 hgo ⊢
    refine AW.seq_k fun K5 hK5 => ?_
    refine AW.regtf false 17 (.val (.bool ((decide (((k : Nat) : Int) > 0)) && (r1.e == 0)))) (by rfl) ?_ ?_ -- region 3
    · skip
      cases h12 : ((decide (((k : Nat) : Int) > 0)))
      · skip
        simp only [go_sem, Nat.reduceAdd, Nat.reduceEqDiff, Nat.reduceLeDiff, true_and, Option.map_none, Option.map_some, exA, sa_set hk, so_set hk, List.set_set, h12]
        try simp [upd_at, h12, Option.map_none, Option.map_some, exA, sa_set hk, so_set hk, List.set_set]
      · skip
        simp only [go_sem, Nat.reduceAdd, Nat.reduceEqDiff, Nat.reduceLeDiff, true_and, Option.map_none, Option.map_some, exA, sa_set hk, so_set hk, List.set_set, h12]
        refine sC.ofR en17 (err_calls (σ.set o (RC nl1 r1) ++ tab σ.length w []) o nl1 r1 (so_get hk _)) (fun v' σ' hR => ?_)
        obtain ⟨rfl, rfl⟩ := hR
        simp only [go_sem, Nat.reduceAdd, Nat.reduceEqDiff, Nat.reduceLeDiff, true_and, Option.map_none, Option.map_some, exA, sa_set hk, so_set hk, List.set_set, h12]
        try simp [upd_at, h12, Option.map_none, Option.map_some, exA, sa_set hk, so_set hk, List.set_set]
    conv => enter [5]; simp only [List.set_cons_zero, List.set_cons_succ]
    refine AW.cond rfl (fun hc17 => ?_) (fun hc17 => ?_)
    · skip
      have hcc : 0 < k ∧ r1.e = 0 := by simpa using hc17
      have he1 := hcc.2
      obtain ⟨k0, rfl⟩ : ∃ k0, k = k0 + 1 := ⟨k - 1, by omega⟩
      refine AW.skip ?_
      refine hK5 _ _ ?_; try clear hK5 K5
      refine AW.seq_k fun K7 hK7 => ?_
      refine AW.block ?_
      refine AW.regl false [5] (by rfl) fun K8 hK8 => ?_ -- region 5
      simp only [go_sem, Nat.reduceAdd, Nat.reduceEqDiff, Nat.reduceLeDiff, true_and, Option.map_none, Option.map_some, exA, sa_set hk, so_set hk, List.set_set]
      refine sC.ofR en27 (text_calls (σ.set o (RC nl1 r1) ++ tab σ.length w []) o nl1 r1 65535 hb1 (so_get hk _)) (fun v' σ' hR => ?_)
      obtain ⟨nl2, rfl, rfl⟩ := hR
      simp only [go_sem, Nat.reduceAdd, Nat.reduceEqDiff, Nat.reduceLeDiff, true_and, Option.map_none, Option.map_some, exA, sa_set hk, so_set hk, List.set_set]
      refine hK8 _ _ ?_; try clear hK8 K8
      conv => enter [5]; simp only [setL_cons, setL_nil, List.set_cons_zero, List.set_cons_succ]
      obtain ⟨s, hs⟩ : ∃ z, (r1.text 65535).1 = z := ⟨_, rfl⟩
      obtain ⟨r2, hr2⟩ : ∃ z, (r1.text 65535).2 = z := ⟨_, rfl⟩
      have hb2 : r2.b.length ≤ maxLen := by rw [← hr2]; exact Nat.le_trans (text_len r1 _) hb1
      rw [hs, hr2]
      refine AW.mid (α := Bool × Rd) (fun z => [(.ref o 0), .any, .any, (.ref (σ.length + 1) 0), (u64 (k0 + 1)), (str s), .any, .any, .any, .any, .any, .any, .any, .any, .any, .any, .any, .any, .any, .any, .any, .any, .any, .any, .any, .any, .any, .any, .any, .any, .any, .any, .any, .any, .any, .any, .any, .any, .any]) (fun z => σ.set o (RC z.1 z.2) ++ tab σ.length w []) (fun z => z.2 = if (findS w s).isSome = true then r2.fail 2 else r2) ?_ ?_
      · skip
        refine AW.regl false [7] (by rfl) fun K10 hK10 => ?_ -- region 6
        simp only [go_sem, Nat.reduceAdd, Nat.reduceEqDiff, Nat.reduceLeDiff, true_and, Option.map_none, Option.map_some, exA, sa_set hk, so_set hk, List.set_set]
        refine sC.ofR en21 (find_in σ o (RC nl2 r2) w s) (fun v' σ' hR => ?_)
        obtain ⟨rfl, rfl⟩ := hR
        simp only [go_sem, Nat.reduceAdd, Nat.reduceEqDiff, Nat.reduceLeDiff, true_and, Option.map_none, Option.map_some, exA, sa_set hk, so_set hk, List.set_set]
        refine hK10 _ _ ?_; try clear hK10 K10
        conv => enter [5]; simp only [setL_cons, setL_nil, List.set_cons_zero, List.set_cons_succ]
        refine AW.regl false [28] (by rfl) fun K11 hK11 => ?_ -- region 7
        simp only [go_sem, Nat.reduceAdd, Nat.reduceEqDiff, Nat.reduceLeDiff, true_and, Option.map_none, Option.map_some, exA, sa_set hk, so_set hk, List.set_set]
        refine hK11 _ _ ?_; try clear hK11 K11
        conv => enter [5]; simp only [setL_cons, setL_nil, List.set_cons_zero, List.set_cons_succ]
        refine AW.cond rfl (fun hc28 => ?_) (fun hc28 => ?_)
        · skip
          have hdup : (findS w s).isSome = true := by simpa using hc28
          refine AW.lastl false [] (by rfl) fun K hK => ?_ -- region 8
          simp only [go_sem, Nat.reduceAdd, Nat.reduceEqDiff, Nat.reduceLeDiff, true_and, Option.map_none, Option.map_some, exA, sa_set hk, so_set hk, List.set_set]
          refine sC.ofR en28 (fail_calls (σ.set o (RC nl2 r2) ++ tab σ.length w []) o nl2 r2 2 (by decide) (so_get hk _)) (fun v' σ' hR => ?_)
          obtain ⟨nl3, rfl⟩ := hR
          simp only [go_sem, Nat.reduceAdd, Nat.reduceEqDiff, Nat.reduceLeDiff, true_and, Option.map_none, Option.map_some, exA, sa_set hk, so_set hk, List.set_set]
          refine hK _ _ fun env' hw => ?_
          simp only [setL_cons, setL_nil, List.set_cons_zero, List.set_cons_succ] at hw
          first
            | exact ⟨(nl3, r2.fail 2), (if_pos hdup).symm, (hw.trans (by simp [Wk])), rfl⟩
            | exact ⟨(nl2, r2), (if_neg hdup).symm, (hw.trans (by simp [Wk])), rfl⟩
        · skip
          have hdup : ¬ (findS w s).isSome = true := by simpa using hc28
          refine AW.skip ?_
          first
            | exact ⟨(nl3, r2.fail 2), (if_pos hdup).symm, (by simp [Wk]), rfl⟩
            | exact ⟨(nl2, r2), (if_neg hdup).symm, (by simp [Wk]), rfl⟩
      · skip
        rintro ⟨nl3, r3⟩ hr3
        simp only at hr3 ⊢
        have hb3 : r3.b.length ≤ maxLen := by
          rw [hr3]
          split
          · exact Nat.le_trans (fail_len _ _) hb2
          · exact hb2
        refine AW.lastl false [] (by rfl) fun K hK => ?_ -- region 9
        simp only [go_sem, Nat.reduceAdd, Nat.reduceEqDiff, Nat.reduceLeDiff, true_and, Option.map_none, Option.map_some, exA, sa_set hk, so_set hk, List.set_set]
        refine sC.ofR en6 (add_in σ o (RC nl3 r3) w s) (fun v' σ' hR => ?_)
        obtain ⟨rfl, rfl⟩ := hR
        simp only [go_sem, Nat.reduceAdd, Nat.reduceEqDiff, Nat.reduceLeDiff, true_and, Option.map_none, Option.map_some, exA, sa_set hk, so_set hk, List.set_set]
        refine hK _ _ fun env' hw => ?_
        simp only [setL_cons, setL_nil, List.set_cons_zero, List.set_cons_succ] at hw
        refine hK7 _ _ (AW.weaken hw ?_); clear hw; try clear hK7 K7
        refine AW.lastl false [4] (by rfl) fun K hK => ?_ -- region 4
        simp only [go_sem, Nat.reduceAdd, Nat.reduceEqDiff, Nat.reduceLeDiff, true_and, Option.map_none, Option.map_some, exA, sa_set hk, so_set hk, List.set_set]
        refine hK _ _ fun env' hw => ?_
        simp only [setL_cons, setL_nil, List.set_cons_zero, List.set_cons_succ] at hw
        refine ⟨(k0, addL w s, nl3, r3), by simp only; omega, ⟨by simp only; omega, hb3, pg_nxt he1 hs (by rw [hr2]; exact hr3) hgo⟩, ?_, rfl⟩
        refine hw.trans ?_
        simp [Wk, wrap_u64p (n := k0) (by omega), wrap_u64 (n := k0) (by omega)]
    · skip
      have hfin : pgTab r = (w, r1) := by
        rw [← hgo]
        refine pg_stop ?_
        simp only [Bool.and_eq_false_iff, decide_eq_false_iff_not, beq_eq_false_iff_ne, ne_eq] at hc17
        rcases hc17 with h | h
        · exact .inl (by omega)
        · exact .inr h
      refine AW.exit ?_
      refine hK3 _ _ ?_; try clear hK3 K3
      refine AW.seq_k fun K12 hK12 => ?_
      refine AW.regl false [36] (by rfl) fun K13 hK13 => ?_ -- region 10
      simp only [go_sem, Nat.reduceAdd, Nat.reduceEqDiff, Nat.reduceLeDiff, true_and, Option.map_none, Option.map_some, exA, sa_set hk, so_set hk, List.set_set]
      refine sC.ofR en17 (err_calls (σ.set o (RC nl1 r1) ++ tab σ.length w []) o nl1 r1 (so_get hk _)) (fun v' σ' hR => ?_)
      obtain ⟨rfl, rfl⟩ := hR
      simp only [go_sem, Nat.reduceAdd, Nat.reduceEqDiff, Nat.reduceLeDiff, true_and, Option.map_none, Option.map_some, exA, sa_set hk, so_set hk, List.set_set]
      refine hK13 _ _ ?_; try clear hK13 K13
      conv => enter [5]; simp only [setL_cons, setL_nil, List.set_cons_zero, List.set_cons_succ]
      refine AW.cond rfl (fun hc36 => ?_) (fun hc36 => ?_)
      · skip
        have he : r1.e ≠ 0 := by simpa using hc36
        refine AW.regl false [2] (by rfl) fun K14 hK14 => ?_ -- region 11
        simp only [go_sem, Nat.reduceAdd, Nat.reduceEqDiff, Nat.reduceLeDiff, true_and, Option.map_none, Option.map_some, exA, sa_set hk, so_set hk, List.set_set]
        refine sC.ofR en5 (new_calls (σ.set o (RC nl1 r1) ++ tab σ.length w [])) (fun v' σ' hR => ?_)
        obtain ⟨rfl, rfl⟩ := hR
        simp only [go_sem, Nat.reduceAdd, Nat.reduceEqDiff, Nat.reduceLeDiff, true_and, Option.map_none, Option.map_some, exA, sa_set hk, so_set hk, List.set_set]
        refine hK14 _ _ ?_; try clear hK14 K14
        conv => enter [5]; simp only [setL_cons, setL_nil, List.set_cons_zero, List.set_cons_succ]
        rw [show (σ.set o (RC nl1 r1)).length + (tab σ.length w []).length = (σ.set o (RC nl1 r1) ++ tab σ.length w []).length from List.length_append.symm, ← List.append_assoc (σ.set o (RC nl1 r1)) (tab σ.length w [])]
        refine own_tab _ ?_
        exact AW.ret ⟨.inr rfl, _, rfl, nl1, tab σ.length w [], by rw [hfin], by rw [hfin, if_pos he]⟩
      · skip
        have he : ¬ r1.e ≠ 0 := by simpa using hc36
        refine AW.skip ?_
        refine hK12 _ _ ?_; try clear hK12 K12
        refine AW.regl false [2] (by rfl) fun K15 hK15 => ?_ -- region 12
        simp only [go_sem, Nat.reduceAdd, Nat.reduceEqDiff, Nat.reduceLeDiff, true_and, Option.map_none, Option.map_some, exA, sa_set hk, so_set hk, List.set_set]
        refine hK15 _ _ ?_; try clear hK15 K15
        conv => enter [5]; simp only [setL_cons, setL_nil, List.set_cons_zero, List.set_cons_succ]
        exact AW.ret ⟨.inr rfl, _, rfl, nl1, [], by rw [hfin, List.append_nil, List.length_set], by rw [hfin, if_neg he, List.append_nil, List.length_set]⟩
end Go.Proofs.Try

