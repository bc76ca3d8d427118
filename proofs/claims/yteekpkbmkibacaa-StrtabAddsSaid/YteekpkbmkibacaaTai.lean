import Derived.Test.YteekpkbmkibacaaTah
/-! The law StrtabAdds. -/
namespace Go.Proofs.Try
set_option linter.unusedSimpArgs false
set_option linter.unusedVariables false
open Go Go.Proofs.Ev
variable {Γ : List (Nat × List AV)}
def OKw (k : Nat) (w : List ByteArray) : Prop := w.Nodup ∧ w.length ≤ k ∧ ∀ s ∈ w, s.size ≤ 65560
theorem findS_mem : ∀ {l : List ByteArray} {s : ByteArray}, s ∈ l → (findS l s).isSome = true
  | [], _, h => by cases h
  | a :: l, s, h => by
    by_cases e : s = a
    · simp [findS, e]
    · rcases List.mem_cons.1 h with h | h
      · exact absurd h e
      · have := findS_mem h
        simp [findS, e, this]
theorem OKw.add {k : Nat} {w : List ByteArray} (h : OKw k w) {s : ByteArray} (hs : s.size ≤ 65560) : OKw (k + 1) (addL w s) := by
  obtain ⟨h1, h2, h3⟩ := h
  unfold addL
  split
  · exact ⟨h1, by omega, h3⟩
  · rename_i hf
    split
    · exact ⟨h1, by omega, h3⟩
    · refine ⟨List.nodup_append.2 ⟨h1, by simp, fun a ha b hb => ?_⟩, by simp; omega, fun t ht => ?_⟩
      · simp only [List.mem_singleton] at hb
        subst hb
        exact fun e => hf (findS_mem (e ▸ ha))
      · simp only [List.mem_append, List.mem_singleton] at ht
        rcases ht with ht | rfl
        · exact h3 t ht
        · exact hs
def hd (s : ByteArray) : UInt8 := s.data.toList.headD 0
def zer : List AV := List.replicate 65600 (byteAV 0)
def fil (n : Nat) (c : UInt8) : List AV := List.replicate n (byteAV c) ++ List.replicate (65600 - n) (byteAV 0)
theorem fil0 (c : UInt8) : fil 0 c = zer := by
  unfold fil zer
  rw [List.replicate_zero, List.nil_append, Nat.sub_zero]
theorem fil_len {n : Nat} (c : UInt8) (h : n ≤ 65600) : (fil n c).length = 65600 := by
  simp only [fil, List.length_append, List.length_replicate]
  omega
theorem fil_set {n : Nat} (c : UInt8) (h : n < 65600) : (fil n c).take n ++ [byteAV c] ++ (fil n c).drop (n + 1) = fil (n + 1) c := by
  unfold fil
  obtain ⟨m, hm⟩ : ∃ m, 65600 - n = m + 1 := ⟨65600 - n - 1, by omega⟩
  have hm2 : 65600 - (n + 1) = m := by omega
  rw [hm, hm2, List.take_left' (by simp), List.replicate_succ, List.replicate_succ' (n := n)]
  have : List.drop (n + 1) (List.replicate n (byteAV c) ++ byteAV 0 :: List.replicate m (byteAV 0)) = List.replicate m (byteAV 0) := by
    rw [List.drop_append]
    simp
  rw [this]
theorem mk65600 (σ : Sto) (k k1 : IntKind) : aMakeSlice prog σ 25 (.val (.int k 65600)) (.val (.int k1 65600)) = some (.osl σ.length 0 65600 1, σ ++ [.cells zer]) := by
  rw [mk25, if_pos ⟨by decide, by decide⟩]
  have : aZeros [.val (.int .u8 0)] ((65600 : Int).toNat * 1) = zer := by
    rw [show (65600 : Int).toNat * 1 = 65600 from rfl]
    simp only [aZeros, List.length_singleton, Nat.mod_one, List.getD_cons_zero, zer]
    rw [List.map_const', List.length_range]
    rfl
  rw [this]
  rfl
attribute [-go_sem] mk25
theorem idx0 {s : ByteArray} (h : 0 < s.size) : aIndex prog 9 (str s) (i64 0) = some (.val (.int .u8 ((hd s).toNat : Int))) := by
  have e := index_str (P := prog) (T := 9) tyStr9 s .i64 0 h
  rw [show ((0 : Nat) : Int) = 0 from rfl] at e
  rw [e]
  have : s[0]'h = hd s := by
    obtain ⟨⟨l⟩⟩ := s
    cases l with
    | nil => simp [ByteArray.size] at h
    | cons a l => rfl
  rw [this]
theorem st_fil (Z : Sto) {n : Nat} (c : UInt8) (h : n < 65600) : (if n + 1 ≤ (fil n c).length then some (Z ++ [AO.cells (List.take n (fil n c) ++ AV.val (.int .u8 (c.toNat : Int)) :: List.drop (n + 1) (fil n c))]) else none) = some (Z ++ [.cells (fil (n + 1) c)]) := by
  rw [if_pos (by rw [fil_len c (by omega)]; omega), ← fil_set c h]
  simp [byteAV]
theorem sl_osl (o : Nat) {h : Nat} (h0 : 0 < h) (h1 : h ≤ 65600) : aSlice prog 25 (.osl o 0 65600 1) none (some (i64 (h : Nat))) = some (.osl o 0 h 1) := by
  obtain ⟨e, i, k1, k2, k3⟩ := of_tSize (P := prog) (T := 25) (sz := 1) (by kernel_rfl)
  simp only [aSlice, k1, k2]
  rw [if_pos k3.symm]
  simp [aSliceBound, h0, show (h : Int) ≤ 65600 by omega]
theorem sl_str (s : ByteArray) {h : Nat} (h1 : h ≤ s.size) : aSlice prog 9 (str s) none (some (i64 (h : Nat))) = some (str (s.extract 0 h)) := by
  have k : prog.underlying 9 = some .string := underlying9
  simp only [aSlice, k]
  simp [aSliceBound, h1]
theorem cv_fil (Z : Sto) (c : UInt8) {h : Nat} (h1 : h ≤ 65600) : aConv prog (Z ++ [.cells (fil 65600 c)]) 25 9 (.osl Z.length 0 h 1) = some (str (bs (List.replicate h c)), Z ++ [.cells (fil 65600 c)]) :=
  aConv_bytes (by kernel_rfl) (by kernel_rfl) _ Z.length 0 h (cs := fil 65600 c) ((app_get0 Z _).trans rfl) (by rw [fil_len c (Nat.le_refl _)]; omega) (by
    simp only [fil, Nat.sub_self, List.replicate_zero, List.append_nil, List.drop_zero, List.take_replicate, List.map_replicate]
    rw [Nat.min_eq_left h1])
theorem like_at (σ τ : Sto) (l : List ByteArray) (hn : l.Nodup) (hl : l.length ≤ 60) : ACalls prog Γ 8 [.ref (σ.length + 1) 0, rowAV 1 true (l.map str)] (σ ++ tab σ.length l τ) (fun v σ' => v = bool true ∧ σ' = σ ++ tab σ.length l τ) :=
  like_calls σ τ l true hn (by have : maxLen = 9223372036854775807 := by decide
                               omega)
theorem lacks_at (σ τ : Sto) (l : List ByteArray) (s : ByteArray) (hl : l.length ≤ 60) : ACalls prog Γ 9 [.ref (σ.length + 1) 0, rowAV 1 true (l.map str), str s] (σ ++ tab σ.length l τ) (fun v σ' => v = bool true ∧ σ' = σ ++ tab σ.length l τ) :=
  lacks_calls σ τ l true s (by have : maxLen = 9223372036854775807 := by decide
                               omega)
theorem lacks_on (σ τ : Sto) (l : List ByteArray) (s : ByteArray) (hl : l.length ≤ 60) : APureOn prog Γ 9 [.ref (σ.length + 1) 0, rowAV 1 true (l.map str), str s] (σ ++ tab σ.length l τ) (bool true) := by
  intro τ'
  rw [tab_app]
  exact (lacks_at σ (τ ++ τ') l s hl).mono fun v σ' hR => ⟨hR.2, hR.1⟩
theorem get_any (σ τ : Sto) (l : List ByteArray) (i : Int) : ACalls prog Γ 10 [.ref (σ.length + 1) 0, i64 i] (σ ++ tab σ.length l τ) (fun v σ' => v = .tup [str (bif (decide (i ≥ 0) && decide (i < (l.length : Int))) then l.getD i.toNat ⟨#[]⟩ else ⟨#[]⟩), bool (decide (i ≥ 0) && decide (i < (l.length : Int)))] ∧ σ' = σ ++ tab σ.length l τ) := by
  refine (get_calls σ τ l i).mono fun v σ' hR => ⟨?_, hR.1⟩
  rw [hR.2]
  by_cases h : 0 ≤ i ∧ i < l.length
  · rw [if_pos h]
    simp [h.1, h.2]
  · rw [if_neg h]
    have : (decide (i ≥ 0) && decide (i < (l.length : Int))) = false := by
      simp only [Bool.and_eq_false_iff, decide_eq_false_iff_not]
      rcases Classical.em (0 ≤ i) with h1 | h1
      · exact .inr fun h2 => h ⟨h1, h2⟩
      · exact .inl h1
    rw [this]
    rfl
theorem take_tab (σ : Sto) (w : List ByteArray) (τ : Sto) : (σ ++ tab σ.length w τ).take (σ ++ tab σ.length [] []).length = σ ++ tab σ.length w [] := by
  have := tab_app σ [] τ w
  rw [List.nil_append] at this
  rw [← this]
  exact List.take_left' (by simp [tab])
theorem bel_tab (σ : Sto) (w : List ByteArray) : ∀ (i : Nat) (a : AO), (σ ++ tab σ.length w [])[i]? = some a → (σ ++ tab σ.length [] [])[i]? = some a ∨ a.bel (σ ++ tab σ.length [] []).length = true := by
  refine bel_app σ fun a ha => ?_
  simp only [tab, List.mem_cons, List.not_mem_nil, or_false] at ha
  rcases ha with rfl | rfl | rfl
  · exact belL_map _ _ fun _ _ => rfl
  · simp only [AO.bel, belL, AV.bel, Bool.and_true, Bool.and_eq_true, decide_eq_true_eq, List.length_append, tab, List.length_cons, List.length_nil]
    exact ⟨⟨by omega, strs_bel _ _⟩, by omega⟩
  · rfl
theorem wrap_small {n : Nat} (h : n < 1000000) : IntKind.wrap .i64 (n : Int) = (n : Int) := by
  cases n with
  | zero => rfl
  | succ m => exact wrap_succ (show m < 1000000 by omega) (by decide)
theorem nine_eq (w : List ByteArray) : bs (9 :: putL w) = ⟨#[9]⟩ ++ ptb w w.length := by
  apply Go.WideShapes.bytes_inj
  have h := ptb_data (l := w) w.length (Nat.le_refl _)
  rw [List.take_length] at h
  simp [bs, putL, h]
theorem size_of {s : ByteArray} {b : Bool} (h : (b && !(s.toList == (⟨#[]⟩ : ByteArray).toList)) = true) : 0 < s.size := by
  rcases Nat.eq_zero_or_pos s.size with h0 | h0
  · exfalso
    have : s = ⟨#[]⟩ := by
      obtain ⟨⟨l⟩⟩ := s
      cases l with
      | nil => rfl
      | cons a l => simp [ByteArray.size] at h0
    rw [this] at h
    simp at h
  · exact h0
set_option maxRecDepth 100000 in
theorem strtabAdds_calls (nl : Bool) (l : List ByteArray) (lg ix : Int) (hlm : l.length ≤ maxLen) (σ : Sto) : ACalls prog Γ 3 [rowAV 1 nl (l.map str), i64 lg, i64 ix] σ (fun v σ' => v = bool true) := by
  refine ACalls.of func3 rfl ?_
  simp only [ntmps3, List.length_cons, List.length_nil, Nat.reduceAdd, Nat.reduceSub, List.replicate_succ, List.replicate_zero, List.cons_append, List.nil_append]
  refine AW.regl false [6] (by rfl) fun K1 hK1 => ?_ -- region 0
  simp only [go_sem, Nat.reduceAdd, Nat.reduceEqDiff, Nat.reduceLeDiff, true_and, List.length_map]
  refine hK1 _ _ ?_; try clear hK1 K1
  conv => enter [4]; simp only [setL_cons, setL_nil, List.set_cons_zero, List.set_cons_succ]
  refine AW.seq_k fun K2 hK2 => ?_
  refine AW.regl false [22] (by rfl) fun K3 hK3 => ?_ -- region 1
  simp only [go_sem, Nat.reduceAdd, Nat.reduceEqDiff, Nat.reduceLeDiff, true_and, List.length_map]
  refine hK3 _ _ ?_; try clear hK3 K3
  conv => enter [4]; simp only [setL_cons, setL_nil, List.set_cons_zero, List.set_cons_succ]
  refine AW.cond rfl (fun hc22 => ?_) (fun hc22 => ?_)
  · skip
    refine AW.regl false [6] (by rfl) fun K4 hK4 => ?_ -- region 2
    simp only [go_sem, Nat.reduceAdd, Nat.reduceEqDiff, Nat.reduceLeDiff, true_and, List.length_map]
    refine hK4 _ _ ?_; try clear hK4 K4
    conv => enter [4]; simp only [setL_cons, setL_nil, List.set_cons_zero, List.set_cons_succ]
    exact AW.ret ⟨.inr rfl, _, rfl, rfl⟩
  · skip
    have h60 : l.length ≤ 60 := by simp only [decide_eq_false_iff_not] at hc22; omega
    refine AW.skip ?_
    refine hK2 _ _ ?_; try clear hK2 K2
    refine AW.regl false [7] (by rfl) fun K5 hK5 => ?_ -- region 3
    simp only [go_sem, Nat.reduceAdd, Nat.reduceEqDiff, Nat.reduceLeDiff, true_and, List.length_map]
    refine sC.ofR en5 (new_calls σ) (fun v' σ' hR => ?_)
    obtain ⟨rfl, rfl⟩ := hR
    simp only [go_sem, Nat.reduceAdd, Nat.reduceEqDiff, Nat.reduceLeDiff, true_and, List.length_map]
    refine hK5 _ _ ?_; try clear hK5 K5
    conv => enter [4]; simp only [setL_cons, setL_nil, List.set_cons_zero, List.set_cons_succ]
    refine AW.seq_k fun K6 hK6 => ?_
    refine own_tab σ ?_
    refine AW.regl false [25] (by rfl) fun K7 hK7 => ?_ -- region 4
    simp only [go_sem, Nat.reduceAdd, Nat.reduceEqDiff, Nat.reduceLeDiff, true_and, List.length_map]
    refine hK7 _ _ ?_; try clear hK7 K7
    conv => enter [4]; simp only [setL_cons, setL_nil, List.set_cons_zero, List.set_cons_succ]
    refine AW.cond rfl (fun hc25 => ?_) (fun hc25 => ?_)
    · skip
      exact absurd hc25 (by simp)
    · skip
      refine AW.skip ?_
      refine hK6 _ _ ?_; try clear hK6 K6
      refine AW.regl false [8] (by rfl) fun K8 hK8 => ?_ -- region 6
      simp only [go_sem, Nat.reduceAdd, Nat.reduceEqDiff, Nat.reduceLeDiff, true_and, List.length_map]
      refine hK8 _ _ ?_; try clear hK8 K8
      conv => enter [4]; simp only [setL_cons, setL_nil, List.set_cons_zero, List.set_cons_succ]
      refine AW.seq_k fun K9 hK9 => ?_
      refine AW.regl false [9] (by rfl) fun K10 hK10 => ?_ -- region 7
      simp only [go_sem, Nat.reduceAdd, Nat.reduceEqDiff, Nat.reduceLeDiff, true_and, List.length_map]
      refine hK10 _ _ ?_; try clear hK10 K10
      conv => enter [4]; simp only [setL_cons, setL_nil, List.set_cons_zero, List.set_cons_succ]
      refine AW.block ?_
      -- LIVE but not told: [43, 44, 83, 84, 85, 88, 89, 90, 91, 94, 95, 96, 97, 98, 99, 102, 103, 104, 105, 106, 107, 108, 109, 110, 122, 123, 124, 125, 129, 130, 131, 132, 133, 136, 137, 138, 141, 142, 143, 146, 147, 148, 149, 150, 151, 152, 153, 156]
      refine AW.loop_dr (α := Nat × List ByteArray) (fun z => [(rowAV 1 nl (l.map str)), (i64 lg), (i64 ix), .any, .any, .any, .any, (.ref (σ.length + 1) 0), (rowAV 1 true (z.2.map str)), (i64 (z.1 : Nat)), .any, .any, .any, .any, .any, .any, .any, .any, .any, .any, .any, .any, .any, .any, .any, .any, .any, .any, .any, .any, .any, .any, .any, .any, .any, .any, .any, .any, .any, .any, .any, .any, .any, .any, .any, .any, .any, .any, .any, .any, .any, .any, .any, .any, .any, .any, .any, .any, .any, .any, .any, .any, .any, .any, .any, .any, .any, .any, .any, .any, .any, .any, .any, .any, .any, .any, .any, .any, .any, .any, .any, .any, .any, .any, .any, .any, .any, .any, .any, .any, .any, .any, .any, .any, .any, .any, .any, .any, .any, .any, .any, .any, .any, .any, .any, .any, .any, .any, .any, .any, .any, .any, .any, .any, .any, .any, .any, .any, .any, .any, .any, .any, .any, .any, .any, .any, .any, .any, .any, .any, .any, .any, .any, .any, .any, .any, .any, .any, .any, .any, .any, .any, .any, .any, .any, .any, .any, .any, .any, .any, .any, .any, .any, .any, .any, .any, .any, .any]) (fun z => σ ++ tab σ.length z.2 []) (fun z => l.length - z.1) (fun z => z.1 ≤ l.length ∧ OKw z.1 z.2) (0, []) ?_ ?_ ?_
      · exact ⟨⟨Nat.zero_le _, List.nodup_nil, Nat.le_refl _, fun s h => by cases h⟩, by simp [Wk, rowAV], rfl⟩
      · exact fun y hy => ⟨by simp [belL, AV.bel, row_strs, tab], bel_tab σ y.2⟩
      · rintro ⟨k, w⟩ ⟨hk, hw⟩
        simp only at hk hw ⊢
        have hwl := hw.2.1
        refine AW.seq_k fun K11 hK11 => ?_
        refine AW.regl false [29] (by rfl) fun K12 hK12 => ?_ -- region 8
        simp only [go_sem, Nat.reduceAdd, Nat.reduceEqDiff, Nat.reduceLeDiff, true_and, List.length_map]
        refine hK12 _ _ ?_; try clear hK12 K12
        conv => enter [4]; simp only [setL_cons, setL_nil, List.set_cons_zero, List.set_cons_succ]
        refine AW.cond rfl (fun hc29 => ?_) (fun hc29 => ?_)
        · skip
          have hk1 : k < l.length := by simpa using hc29
          have hx : (l.map str)[k]? = some (str l[k]) := by simp [hk1]
          refine AW.skip ?_
          refine hK11 _ _ ?_; try clear hK11 K11
          refine AW.seq_k fun K13 hK13 => ?_
          refine AW.block ?_
          refine AW.regl false [10] (by rfl) fun K14 hK14 => ?_ -- region 10
          simp only [go_sem, Nat.reduceAdd, Nat.reduceEqDiff, Nat.reduceLeDiff, true_and, List.length_map, at_row hx]
          refine hK14 _ _ ?_; try clear hK14 K14
          conv => enter [4]; simp only [setL_cons, setL_nil, List.set_cons_zero, List.set_cons_succ]
          refine AW.seq_k fun K15 hK15 => ?_
          refine AW.regl false [38] (by rfl) fun K16 hK16 => ?_ -- region 11
          simp only [go_sem, Nat.reduceAdd, Nat.reduceEqDiff, Nat.reduceLeDiff, true_and, List.length_map]
          refine hK16 _ _ ?_; try clear hK16 K16
          conv => enter [4]; simp only [setL_cons, setL_nil, List.set_cons_zero, List.set_cons_succ]
          refine AW.cond rfl (fun hc38 => ?_) (fun hc38 => ?_)
          · skip
            refine AW.regl false [6] (by rfl) fun K17 hK17 => ?_ -- region 12
            simp only [go_sem, Nat.reduceAdd, Nat.reduceEqDiff, Nat.reduceLeDiff, true_and, List.length_map]
            refine hK17 _ _ ?_; try clear hK17 K17
            conv => enter [4]; simp only [setL_cons, setL_nil, List.set_cons_zero, List.set_cons_succ]
            exact AW.ret ⟨.inr rfl, _, rfl, rfl⟩
          · skip
            have h300 : l[k].size ≤ 300 := by simp only [decide_eq_false_iff_not] at hc38; omega
            refine AW.skip ?_
            refine hK15 _ _ ?_; try clear hK15 K15
            refine AW.mid (α := ByteArray × Sto) (fun z => [(rowAV 1 nl (l.map str)), (i64 lg), (i64 ix), .any, .any, .any, .any, (.ref (σ.length + 1) 0), (rowAV 1 true (w.map str)), (i64 (k : Nat)), (str z.1), .any, .any, .any, .any, .any, .any, .any, .any, .any, .any, .any, .any, .any, .any, .any, .any, .any, .any, .any, .any, .any, .any, .any, .any, .any, .any, .any, .any, .any, .any, .any, .any, .any, .any, .any, .any, .any, .any, .any, .any, .any, .any, .any, .any, .any, .any, .any, .any, .any, .any, .any, .any, .any, .any, .any, .any, .any, .any, .any, .any, .any, .any, .any, .any, .any, .any, .any, .any, .any, .any, .any, .any, .any, .any, .any, .any, .any, .any, .any, .any, .any, .any, .any, .any, .any, .any, .any, .any, .any, .any, .any, .any, .any, .any, .any, .any, .any, .any, .any, .any, .any, .any, .any, .any, .any, .any, .any, .any, .any, .any, .any, .any, .any, .any, .any, .any, .any, .any, .any, .any, .any, .any, .any, .any, .any, .any, .any, .any, .any, .any, .any, .any, .any, .any, .any, .any, .any, .any, .any, .any, .any, .any, .any, .any, .any, .any, .any]) (fun z => σ ++ tab σ.length w z.2) (fun z => z.1.size ≤ 65560) ?_ ?_
            · skip
              -- LIVE [43, 44, 45]
              refine AW.regtf false 45 (.val (.bool (((k : Int) == lg) && !(l[k].toList == (⟨#[]⟩ : ByteArray).toList)))) (by rfl) ?_ ?_ -- region 13
              · skip
                cases h41 : (((k : Int) == lg))
                · skip
                  simp only [go_sem, Nat.reduceAdd, Nat.reduceEqDiff, Nat.reduceLeDiff, true_and, List.length_map, h41]
                  try simp [upd_at, h41, List.length_map]
                · skip
                  simp only [go_sem, Nat.reduceAdd, Nat.reduceEqDiff, Nat.reduceLeDiff, true_and, List.length_map, h41]
                  try simp [upd_at, h41, List.length_map]
              conv => enter [4]; simp only [List.set_cons_zero, List.set_cons_succ]
              refine AW.cond rfl (fun hc45 => ?_) (fun hc45 => ?_)
              · skip
                have hne : 0 < l[k].size := size_of hc45
                obtain ⟨Z, hZ⟩ : ∃ Z, Z = σ ++ tab σ.length w [] := ⟨_, rfl⟩
                rw [← hZ]
                refine AW.regl false [11] (by rfl) fun K20 hK20 => ?_ -- region 14
                simp only [go_sem, Nat.reduceAdd, Nat.reduceEqDiff, Nat.reduceLeDiff, true_and, List.length_map, mk65600]
                refine hK20 _ _ ?_; try clear hK20 K20
                conv => enter [4]; simp only [setL_cons, setL_nil, List.set_cons_zero, List.set_cons_succ]
                refine AW.seq_k fun K21 hK21 => ?_
                refine AW.regl false [12] (by rfl) fun K22 hK22 => ?_ -- region 15
                simp only [go_sem, Nat.reduceAdd, Nat.reduceEqDiff, Nat.reduceLeDiff, true_and, List.length_map]
                refine hK22 _ _ ?_; try clear hK22 K22
                conv => enter [4]; simp only [setL_cons, setL_nil, List.set_cons_zero, List.set_cons_succ]
                refine AW.block ?_
                -- LIVE but not told: [43, 44, 83, 84, 85, 88, 89, 90, 91, 94, 95, 96, 97, 98, 99, 102, 103, 104, 105, 106, 107, 108, 109, 110, 122, 123, 124, 125, 129, 130, 131, 132, 133, 136, 137, 138, 141, 142, 143, 146, 147, 148, 149, 150, 151, 152, 153, 156]
                refine AW.loop_wk (α := Nat) (fun n => [(rowAV 1 nl (l.map str)), (i64 lg), (i64 ix), .any, .any, .any, .any, (.ref (σ.length + 1) 0), (rowAV 1 true (w.map str)), (i64 (k : Nat)), (str l[k]), (.osl Z.length 0 65600 1), (i64 (n : Nat)), .any, .any, .any, .any, .any, .any, .any, .any, .any, .any, .any, .any, .any, .any, .any, .any, .any, .any, .any, .any, .any, .any, .any, .any, .any, .any, .any, .any, .any, .any, .any, .any, .any, .any, .any, .any, .any, .any, .any, .any, .any, .any, .any, .any, .any, .any, .any, .any, .any, .any, .any, .any, .any, .any, .any, .any, .any, .any, .any, .any, .any, .any, .any, .any, .any, .any, .any, .any, .any, .any, .any, .any, .any, .any, .any, .any, .any, .any, .any, .any, .any, .any, .any, .any, .any, .any, .any, .any, .any, .any, .any, .any, .any, .any, .any, .any, .any, .any, .any, .any, .any, .any, .any, .any, .any, .any, .any, .any, .any, .any, .any, .any, .any, .any, .any, .any, .any, .any, .any, .any, .any, .any, .any, .any, .any, .any, .any, .any, .any, .any, .any, .any, .any, .any, .any, .any, .any, .any, .any, .any, .any, .any, .any, .any, .any]) (fun n => Z ++ [.cells (fil n (hd l[k]))]) (fun n => 65600 - n) (fun n => n ≤ 65600) 0 ?_ ?_
                · exact ⟨Nat.zero_le _, by simp [Wk], by rw [fil0]⟩
                · intro n hn
                  refine AW.seq_k fun K23 hK23 => ?_
                  refine AW.regl false [50] (by rfl) fun K24 hK24 => ?_ -- region 16
                  simp only [go_sem, Nat.reduceAdd, Nat.reduceEqDiff, Nat.reduceLeDiff, true_and, List.length_map]
                  refine hK24 _ _ ?_; try clear hK24 K24
                  conv => enter [4]; simp only [setL_cons, setL_nil, List.set_cons_zero, List.set_cons_succ]
                  refine AW.cond rfl (fun hc50 => ?_) (fun hc50 => ?_)
                  · skip
                    have hn1 : n < 65600 := by
                      simp only [decide_eq_true_eq] at hc50
                      omega
                    refine AW.skip ?_
                    refine hK23 _ _ ?_; try clear hK23 K23
                    refine AW.seq_k fun K25 hK25 => ?_
                    refine AW.block ?_
                    refine AW.lastl false [] (by rfl) fun K hK => ?_ -- region 18
                    simp only [go_sem, Nat.reduceAdd, Nat.reduceEqDiff, Nat.reduceLeDiff, true_and, List.length_map, at_osl hn1, idx0 hne, Nat.mul_one, st_fil Z (hd l[k]) hn1]
                    refine hK _ _ fun env' hw => ?_
                    simp only [setL_cons, setL_nil, List.set_cons_zero, List.set_cons_succ] at hw
                    refine hK25 _ _ (AW.weaken hw ?_); clear hw; try clear hK25 K25
                    refine AW.lastl false [12] (by rfl) fun K hK => ?_ -- region 17
                    simp only [go_sem, Nat.reduceAdd, Nat.reduceEqDiff, Nat.reduceLeDiff, true_and, List.length_map]
                    refine hK _ _ fun env' hw => ?_
                    simp only [setL_cons, setL_nil, List.set_cons_zero, List.set_cons_succ] at hw
                    refine ⟨n + 1, by omega, by omega, ?_, rfl⟩
                    refine hw.trans ?_
                    simp [Wk, wrap_succ hn1 (by decide)]
                  · skip
                    have hn1 : n = 65600 := by
                      simp only [decide_eq_false_iff_not] at hc50
                      omega
                    subst hn1
                    refine AW.exit ?_
                    refine hK21 _ _ ?_; try clear hK21 K21
                    have hsl2 : 65530 + l[k].size % 20 ≤ 65600 := by omega
                    have hrem : IntKind.wrap .i64 (65530 + Int.tmod (l[k].size : Int) 20) = ((65530 + l[k].size % 20 : Nat) : Int) := by
                      rw [show Int.tmod (l[k].size : Int) 20 = ((l[k].size % 20 : Nat) : Int) from rfl, show (65530 : Int) + ((l[k].size % 20 : Nat) : Int) = ((65530 + l[k].size % 20 : Nat) : Int) by omega]
                      exact wrap_small (by omega)
                    have hsl := sl_osl Z.length (h := 65530 + l[k].size % 20) (by omega) hsl2
                    refine AW.lastl false [10] (by rfl) fun K hK => ?_ -- region 19
                    simp only [go_sem, Nat.reduceAdd, Nat.reduceEqDiff, Nat.reduceLeDiff, true_and, List.length_map, Option.map_some, Option.map_none, bin_rem (show (20 : Int) ≠ 0 by decide), hrem, hsl, cv_fil Z (hd l[k]) hsl2]
                    refine hK _ _ fun env' hw => ?_
                    simp only [setL_cons, setL_nil, List.set_cons_zero, List.set_cons_succ] at hw
                    first
                      | exact ⟨(bs (List.replicate (65530 + l[k].size % 20) (hd l[k])), [.cells (fil 65600 (hd l[k]))]), by simp only [bs_size, List.length_replicate]; omega, (hw.trans (by simp [Wk])), by rw [hZ]; exact tab_app σ [] _ w⟩
                      | exact ⟨(l[k], []), by simp only; omega, (hw.trans (by simp [Wk])), rfl⟩
              · skip
                refine AW.skip ?_
                first
                  | exact ⟨(bs (List.replicate (65530 + l[k].size % 20) (hd l[k])), [.cells (fil 65600 (hd l[k]))]), by simp only [bs_size, List.length_replicate]; omega, (by simp [Wk]), by rw [hZ]; exact tab_app σ [] _ w⟩
                  | exact ⟨(l[k], []), by simp only; omega, (by simp [Wk]), rfl⟩
            · skip
              rintro ⟨s, τ⟩ hs
              simp only at hs ⊢
              have hw2 := hw.add hs
              have hlen2 := hw2.2.1
              have hhalf : s.size / 2 ≤ s.size := Nat.div_le_self _ _
              have hquo : IntKind.wrap .i64 (Int.tdiv (s.size : Int) 2) = ((s.size / 2 : Nat) : Int) := by
                rw [show Int.tdiv (s.size : Int) 2 = ((s.size / 2 : Nat) : Int) from rfl]
                exact wrap_small (by omega)
              have hcatx := cat_ba (a := s) (b := ⟨#[120]⟩) 9 (by show s.size + 1 ≤ _; omega)
              refine AW.regl false [13, 14] (by rfl) fun K26 hK26 => ?_ -- region 20
              simp only [go_sem, Nat.reduceAdd, Nat.reduceEqDiff, Nat.reduceLeDiff, true_and, List.length_map]
              refine sC.ofR en6 (add_calls σ τ w s) (fun v' σ' hR => ?_)
              obtain ⟨rfl, rfl⟩ := hR
              simp only [go_sem, Nat.reduceAdd, Nat.reduceEqDiff, Nat.reduceLeDiff, true_and, List.length_map]
              refine hK26 _ _ ?_; try clear hK26 K26
              conv => enter [4]; simp only [setL_cons, setL_nil, List.set_cons_zero, List.set_cons_succ]
              refine AW.regl false [15, 16, 17] (by rfl) fun K27 hK27 => ?_ -- region 21
              simp only [go_sem, Nat.reduceAdd, Nat.reduceEqDiff, Nat.reduceLeDiff, true_and, List.length_map]
              refine sC.of en7 ((radd_calls true w s (by omega)).on _).here (by rfl) ?_
              simp only [go_sem, Nat.reduceAdd, Nat.reduceEqDiff, Nat.reduceLeDiff, true_and, List.length_map]
              refine hK27 _ _ ?_; try clear hK27 K27
              conv => enter [4]; simp only [setL_cons, setL_nil, List.set_cons_zero, List.set_cons_succ]
              refine AW.regl false [8] (by rfl) fun K28 hK28 => ?_ -- region 22
              simp only [go_sem, Nat.reduceAdd, Nat.reduceEqDiff, Nat.reduceLeDiff, true_and, List.length_map]
              refine hK28 _ _ ?_; try clear hK28 K28
              conv => enter [4]; simp only [setL_cons, setL_nil, List.set_cons_zero, List.set_cons_succ]
              -- LIVE [83, 84, 85, 88, 89, 90, 91, 94, 95, 96, 97, 98, 99, 102, 103, 104, 105, 106, 107, 108, 109, 110, 111]
              refine AW.regtf false 111 (.val (.bool (false))) (by rfl) ?_ ?_ -- region 23
              · skip
                simp only [go_sem, Nat.reduceAdd, Nat.reduceEqDiff, Nat.reduceLeDiff, true_and, List.length_map, Option.map_some, Option.map_none, bin_quo (show (2 : Int) ≠ 0 by decide), hquo, hcatx, sl_str s hhalf, bne_self_eq_false]
                refine sC.ofR en8 (like_at σ τ (addL w s) hw2.1 (by omega)) (fun v' σ' hR => ?_)
                obtain ⟨rfl, rfl⟩ := hR
                simp only [go_sem, Nat.reduceAdd, Nat.reduceEqDiff, Nat.reduceLeDiff, true_and, List.length_map, Option.map_some, Option.map_none, bin_quo (show (2 : Int) ≠ 0 by decide), hquo, hcatx, sl_str s hhalf, bne_self_eq_false]
                refine sC.ofR en9 (lacks_at σ τ (addL w s) _ (by omega)) (fun v' σ' hR => ?_)
                obtain ⟨rfl, rfl⟩ := hR
                simp only [go_sem, Nat.reduceAdd, Nat.reduceEqDiff, Nat.reduceLeDiff, true_and, List.length_map, Option.map_some, Option.map_none, bin_quo (show (2 : Int) ≠ 0 by decide), hquo, hcatx, sl_str s hhalf, bne_self_eq_false]
                refine sC.ofR en9 (lacks_at σ τ (addL w s) _ (by omega)) (fun v' σ' hR => ?_)
                obtain ⟨rfl, rfl⟩ := hR
                simp only [go_sem, Nat.reduceAdd, Nat.reduceEqDiff, Nat.reduceLeDiff, true_and, List.length_map, Option.map_some, Option.map_none, bin_quo (show (2 : Int) ≠ 0 by decide), hquo, hcatx, sl_str s hhalf, bne_self_eq_false]
                try simp [upd_at, List.length_map, Option.map_some, Option.map_none, bin_quo (show (2 : Int) ≠ 0 by decide), hquo, hcatx, sl_str s hhalf, bne_self_eq_false]
              conv => enter [4]; simp only [List.set_cons_zero, List.set_cons_succ]
              refine AW.cond rfl (fun hc111 => ?_) (fun hc111 => ?_)
              · skip
                exact absurd hc111 (by simp)
              · skip
                refine AW.skip ?_
                refine hK13 _ _ ?_; try clear hK13 K13
                refine AW.lastl false [9] (by rfl) fun K hK => ?_ -- region 9
                simp only [go_sem, Nat.reduceAdd, Nat.reduceEqDiff, Nat.reduceLeDiff, true_and, List.length_map]
                refine hK _ _ fun env' hw => ?_
                simp only [setL_cons, setL_nil, List.set_cons_zero, List.set_cons_succ] at hw
                refine ⟨(k + 1, addL w s), by simp only; omega, ⟨by simp only; omega, hw2⟩, ?_, take_tab σ _ τ⟩
                refine hw.trans ?_
                simp [Wk, wrap_succ hk1 hlm]
        · skip
          have hk1 : k = l.length := by
            have : ¬ k < l.length := by simpa using hc29
            omega
          refine AW.exit ?_
          refine hK9 _ _ ?_; try clear hK9 K9
          refine AW.regl false [18, 19] (by rfl) fun K30 hK30 => ?_ -- region 25
          simp only [go_sem, Nat.reduceAdd, Nat.reduceEqDiff, Nat.reduceLeDiff, true_and, List.length_map]
          refine sC.ofR en10 (get_any σ [] w ix) (fun v' σ' hR => ?_)
          obtain ⟨rfl, rfl⟩ := hR
          simp only [go_sem, Nat.reduceAdd, Nat.reduceEqDiff, Nat.reduceLeDiff, true_and, List.length_map]
          refine hK30 _ _ ?_; try clear hK30 K30
          conv => enter [4]; simp only [setL_cons, setL_nil, List.set_cons_zero, List.set_cons_succ]
          have hls := hw.2.2
          have hp := ptb_size hls w.length (Nat.le_refl _)
          have hcat9 := cat_ba (a := ⟨#[9]⟩) (b := ptb w w.length) 9 (by
            have : w.length * 65570 ≤ 60 * 65570 := Nat.mul_le_mul_right _ (by omega)
            show 1 + _ ≤ _
            omega)
          have heq9 := nine_eq w
          refine AW.regtdf mixed false 6 (.val (.bool (true))) (by kernel_rfl) (by rfl) ?_ ?_ -- region 26
          · skip
            cases h120 : (decide (ix ≥ 0))
            · skip
              simp only [go_sem, Nat.reduceAdd, Nat.reduceEqDiff, Nat.reduceLeDiff, true_and, List.length_map, bin_beql bool4, Bool.true_and, Bool.false_and, beq_self_eq_true, cond_true, cond_false, conv_sl, hcat9, heq9, row1_25 _ (.val (.int .u8 9)) rfl rfl, h120]
              refine qC.of en9 (lacks_on σ [] w _ (by omega)).here (by rfl) ?_
              simp only [go_sem, Nat.reduceAdd, Nat.reduceEqDiff, Nat.reduceLeDiff, true_and, List.length_map, bin_beql bool4, Bool.true_and, Bool.false_and, beq_self_eq_true, cond_true, cond_false, conv_sl, hcat9, heq9, row1_25 _ (.val (.int .u8 9)) rfl rfl, h120]
              refine qC.of en9 (lacks_on σ [] w _ (by omega)).here (by rfl) ?_
              simp only [go_sem, Nat.reduceAdd, Nat.reduceEqDiff, Nat.reduceLeDiff, true_and, List.length_map, bin_beql bool4, Bool.true_and, Bool.false_and, beq_self_eq_true, cond_true, cond_false, conv_sl, hcat9, heq9, row1_25 _ (.val (.int .u8 9)) rfl rfl, h120]
              refine qC.of en11 (tputF_on σ [] w [9] (by omega) hw.2.2 (by simp)).here (by rfl) ?_
              simp only [go_sem, Nat.reduceAdd, Nat.reduceEqDiff, Nat.reduceLeDiff, true_and, List.length_map, bin_beql bool4, Bool.true_and, Bool.false_and, beq_self_eq_true, cond_true, cond_false, conv_sl, hcat9, heq9, row1_25 _ (.val (.int .u8 9)) rfl rfl, h120]
              refine qC.of en12 ((rput_calls true w (by omega) hw.2.2).on _).here (by rfl) ?_
              simp only [go_sem, Nat.reduceAdd, Nat.reduceEqDiff, Nat.reduceLeDiff, true_and, List.length_map, bin_beql bool4, Bool.true_and, Bool.false_and, beq_self_eq_true, cond_true, cond_false, conv_sl, hcat9, heq9, row1_25 _ (.val (.int .u8 9)) rfl rfl, h120]
              refine qC.of en13 (awake_calls.on _).here (by rfl) ?_
              simp only [go_sem, Nat.reduceAdd, Nat.reduceEqDiff, Nat.reduceLeDiff, true_and, List.length_map, bin_beql bool4, Bool.true_and, Bool.false_and, beq_self_eq_true, cond_true, cond_false, conv_sl, hcat9, heq9, row1_25 _ (.val (.int .u8 9)) rfl rfl, h120]
              try simp [upd_at, h120, List.length_map, bin_beql bool4, Bool.true_and, Bool.false_and, beq_self_eq_true, cond_true, cond_false, conv_sl, hcat9, heq9, row1_25 _ (.val (.int .u8 9)) rfl rfl]
            · skip
              cases h125 : (decide (ix < (w.length : Int)))
              · skip
                simp only [go_sem, Nat.reduceAdd, Nat.reduceEqDiff, Nat.reduceLeDiff, true_and, List.length_map, bin_beql bool4, Bool.true_and, Bool.false_and, beq_self_eq_true, cond_true, cond_false, conv_sl, hcat9, heq9, row1_25 _ (.val (.int .u8 9)) rfl rfl, h120, h125]
                refine qC.of en9 (lacks_on σ [] w _ (by omega)).here (by rfl) ?_
                simp only [go_sem, Nat.reduceAdd, Nat.reduceEqDiff, Nat.reduceLeDiff, true_and, List.length_map, bin_beql bool4, Bool.true_and, Bool.false_and, beq_self_eq_true, cond_true, cond_false, conv_sl, hcat9, heq9, row1_25 _ (.val (.int .u8 9)) rfl rfl, h120, h125]
                refine qC.of en9 (lacks_on σ [] w _ (by omega)).here (by rfl) ?_
                simp only [go_sem, Nat.reduceAdd, Nat.reduceEqDiff, Nat.reduceLeDiff, true_and, List.length_map, bin_beql bool4, Bool.true_and, Bool.false_and, beq_self_eq_true, cond_true, cond_false, conv_sl, hcat9, heq9, row1_25 _ (.val (.int .u8 9)) rfl rfl, h120, h125]
                refine qC.of en11 (tputF_on σ [] w [9] (by omega) hw.2.2 (by simp)).here (by rfl) ?_
                simp only [go_sem, Nat.reduceAdd, Nat.reduceEqDiff, Nat.reduceLeDiff, true_and, List.length_map, bin_beql bool4, Bool.true_and, Bool.false_and, beq_self_eq_true, cond_true, cond_false, conv_sl, hcat9, heq9, row1_25 _ (.val (.int .u8 9)) rfl rfl, h120, h125]
                refine qC.of en12 ((rput_calls true w (by omega) hw.2.2).on _).here (by rfl) ?_
                simp only [go_sem, Nat.reduceAdd, Nat.reduceEqDiff, Nat.reduceLeDiff, true_and, List.length_map, bin_beql bool4, Bool.true_and, Bool.false_and, beq_self_eq_true, cond_true, cond_false, conv_sl, hcat9, heq9, row1_25 _ (.val (.int .u8 9)) rfl rfl, h120, h125]
                refine qC.of en13 (awake_calls.on _).here (by rfl) ?_
                simp only [go_sem, Nat.reduceAdd, Nat.reduceEqDiff, Nat.reduceLeDiff, true_and, List.length_map, bin_beql bool4, Bool.true_and, Bool.false_and, beq_self_eq_true, cond_true, cond_false, conv_sl, hcat9, heq9, row1_25 _ (.val (.int .u8 9)) rfl rfl, h120, h125]
                try simp [upd_at, h120, h125, List.length_map, bin_beql bool4, Bool.true_and, Bool.false_and, beq_self_eq_true, cond_true, cond_false, conv_sl, hcat9, heq9, row1_25 _ (.val (.int .u8 9)) rfl rfl]
              · skip
                simp only [go_sem, Nat.reduceAdd, Nat.reduceEqDiff, Nat.reduceLeDiff, true_and, List.length_map, bin_beql bool4, Bool.true_and, Bool.false_and, beq_self_eq_true, cond_true, cond_false, conv_sl, hcat9, heq9, row1_25 _ (.val (.int .u8 9)) rfl rfl, h120, h125]
                refine qC.of en9 (lacks_on σ [] w _ (by omega)).here (by rfl) ?_
                simp only [go_sem, Nat.reduceAdd, Nat.reduceEqDiff, Nat.reduceLeDiff, true_and, List.length_map, bin_beql bool4, Bool.true_and, Bool.false_and, beq_self_eq_true, cond_true, cond_false, conv_sl, hcat9, heq9, row1_25 _ (.val (.int .u8 9)) rfl rfl, h120, h125]
                refine qC.of en9 (lacks_on σ [] w _ (by omega)).here (by rfl) ?_
                simp only [go_sem, Nat.reduceAdd, Nat.reduceEqDiff, Nat.reduceLeDiff, true_and, List.length_map, bin_beql bool4, Bool.true_and, Bool.false_and, beq_self_eq_true, cond_true, cond_false, conv_sl, hcat9, heq9, row1_25 _ (.val (.int .u8 9)) rfl rfl, h120, h125]
                refine qC.of en11 (tputF_on σ [] w [9] (by omega) hw.2.2 (by simp)).here (by rfl) ?_
                simp only [go_sem, Nat.reduceAdd, Nat.reduceEqDiff, Nat.reduceLeDiff, true_and, List.length_map, bin_beql bool4, Bool.true_and, Bool.false_and, beq_self_eq_true, cond_true, cond_false, conv_sl, hcat9, heq9, row1_25 _ (.val (.int .u8 9)) rfl rfl, h120, h125]
                refine qC.of en12 ((rput_calls true w (by omega) hw.2.2).on _).here (by rfl) ?_
                simp only [go_sem, Nat.reduceAdd, Nat.reduceEqDiff, Nat.reduceLeDiff, true_and, List.length_map, bin_beql bool4, Bool.true_and, Bool.false_and, beq_self_eq_true, cond_true, cond_false, conv_sl, hcat9, heq9, row1_25 _ (.val (.int .u8 9)) rfl rfl, h120, h125]
                refine qC.of en13 (awake_calls.on _).here (by rfl) ?_
                simp only [go_sem, Nat.reduceAdd, Nat.reduceEqDiff, Nat.reduceLeDiff, true_and, List.length_map, bin_beql bool4, Bool.true_and, Bool.false_and, beq_self_eq_true, cond_true, cond_false, conv_sl, hcat9, heq9, row1_25 _ (.val (.int .u8 9)) rfl rfl, h120, h125]
                try simp [upd_at, h120, h125, List.length_map, bin_beql bool4, Bool.true_and, Bool.false_and, beq_self_eq_true, cond_true, cond_false, conv_sl, hcat9, heq9, row1_25 _ (.val (.int .u8 9)) rfl rfl]
          conv => enter [4]; simp only [List.set_cons_zero, List.set_cons_succ]
          exact AW.ret ⟨.inr rfl, _, rfl, rfl⟩
end Go.Proofs.Try
