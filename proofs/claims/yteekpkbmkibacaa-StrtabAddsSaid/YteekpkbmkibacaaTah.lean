import Derived.Test.YteekpkbmkibacaaTag
/-! Bytes behind a full row, and the example. -/
namespace Go.Proofs.Try
set_option linter.unusedSimpArgs false
set_option linter.unusedVariables false
open Go Go.Proofs.Ev
variable {Γ : List (Nat × List AV)}
theorem appF (σ : Sto) (x : List UInt8) (b : UInt8) (hx : x.length ≤ 1048576) : aAppendF prog σ 25 25 1 (bys x) (.slf 1 [.val (.int .u8 (b.toNat : Int))]) = some (.slo false 1 (bys (x ++ [b])) σ.length, σ ++ [.cap (x ++ [b]).length 1]) := by
  rw [aAppendF_eq (b := 1) (by kernel_rfl) σ (bys x) _ (ds := [byteAV b]) (by rw [src25]; rfl) (by simp) (by simp [fits, bys_len]; omega), List.length_append, bys_len, bys_app]
  rfl
theorem tab_app (σ τ τ' : Sto) (l : List ByteArray) : (σ ++ tab σ.length l τ) ++ τ' = σ ++ tab σ.length l (τ ++ τ') := by simp [tab]
theorem tab_len (σ τ : Sto) (l : List ByteArray) : (σ ++ tab σ.length l τ).length = σ.length + (τ.length + 3) := by simp [tab]
theorem pv_small {v : Nat} (h : v < 128) : pv v = [UInt8.ofNat v] := pvB_lt h
set_option maxRecDepth 100000 in
theorem putvarF_calls (σ : Sto) (x : List UInt8) (v : Nat) (hv : v < 128) (hx : x.length ≤ 1048576) : ACalls prog Γ 22 [.slf 1 (bys x), .val (.int .u64 (v : Nat))] σ (fun r σ' => r = .slo false 1 (bys (x ++ pv v)) σ.length ∧ σ' = σ ++ [.cap (x ++ pv v).length 1]) := by
  refine ACalls.of func22 rfl ?_
  simp only [ntmps22, List.length_cons, List.length_nil, Nat.reduceAdd, Nat.reduceSub, List.replicate_succ, List.replicate_zero, List.cons_append, List.nil_append]
  have hap := appF (b := UInt8.ofNat v) (hx := hx)
  refine AW.regl false [4] (by rfl) fun K1 hK1 => ?_ -- region 0
  simp only [go_sem, Nat.reduceAdd, Nat.reduceEqDiff, Nat.reduceLeDiff, true_and, wrap_u8, bin_or128, bin_shr7]
  refine hK1 _ _ ?_; try clear hK1 K1
  conv => enter [4]; simp only [setL_cons, setL_nil, List.set_cons_zero, List.set_cons_succ]
  refine AW.seq_k fun K2 hK2 => ?_
  refine AW.block ?_
  refine AW.loop_wk (α := Unit) (fun z => [(.slf 1 (bys x)), (.val (.int .u64 (v : Nat))), .any, .any, .any, .any, .any, .any, .any, .any, .any, .any, .any, .any, .any, .any, .any, .any, .any, .any]) (fun z => σ) (fun z => 0) (fun z => True) () ?_ ?_
  · exact ⟨trivial, by simp [Wk], rfl⟩
  · rintro z hz
    refine AW.seq_k fun K3 hK3 => ?_
    refine AW.regl false [6] (by rfl) fun K4 hK4 => ?_ -- region 1
    simp only [go_sem, Nat.reduceAdd, Nat.reduceEqDiff, Nat.reduceLeDiff, true_and, wrap_u8, bin_or128, bin_shr7]
    refine hK4 _ _ ?_; try clear hK4 K4
    conv => enter [4]; simp only [setL_cons, setL_nil, List.set_cons_zero, List.set_cons_succ]
    refine AW.cond rfl (fun hc6 => ?_) (fun hc6 => ?_)
    · skip
      simp only [decide_eq_true_eq] at hc6
      omega
    · skip
      refine AW.exit ?_
      refine hK2 _ _ ?_; try clear hK2 K2
      refine AW.regl false [4] (by rfl) fun K5 hK5 => ?_ -- region 4
      simp only [go_sem, Nat.reduceAdd, Nat.reduceEqDiff, Nat.reduceLeDiff, true_and, wrap_u8, bin_or128, bin_shr7, row1_25 _ (.val (.int .u8 ((UInt8.ofNat v).toNat : Int))) rfl rfl, hap]
      refine hK5 _ _ ?_; try clear hK5 K5
      conv => enter [4]; simp only [setL_cons, setL_nil, List.set_cons_zero, List.set_cons_succ]
      exact AW.ret ⟨.inr rfl, _, rfl, by rw [pv_small hv], by rw [pv_small hv]; simp⟩

theorem tputF_one (σ τ : Sto) (l : List ByteArray) (x : List UInt8) (hl : l.length < 128) (hx : x.length ≤ 1048576) : ACalls prog Γ 22 [.slf 1 (bys x), .val (.int .u64 (l.length : Nat))] (σ ++ tab σ.length l τ) (fun r σ' => r = .slo false 1 (bys (putY x l 0)) (σ.length + (τ.length + 3)) ∧ σ' = σ ++ tab σ.length l (τ ++ [.cap (putY x l 0).length 1])) := by
  have := putvarF_calls (Γ := Γ) (σ ++ tab σ.length l τ) x l.length hl hx
  rw [tab_len, tab_app] at this
  rw [show putY x l 0 = x ++ pv l.length by simp [putY]]
  exact this
theorem tputF_two (σ τ : Sto) (l : List ByteArray) (x : List UInt8) (hls : ∀ s ∈ l, s.size ≤ 65560) (hl : l.length < 128) (hx : x.length ≤ 1048576) (i : Nat) (hi : i < l.length) : ACalls prog Γ 23 [.slo false 1 (bys (putY x l i)) (σ.length + (τ.length + 3)), str l[i]] (σ ++ tab σ.length l (τ ++ [.cap (putY x l i).length 1])) (fun r σ' => r = .slo false 1 (bys (putY x l (i + 1))) (σ.length + (τ.length + 3)) ∧ σ' = σ ++ tab σ.length l (τ ++ [.cap (putY x l (i + 1)).length 1])) := by
  have h1 := putY_len x hls i (by omega)
  have h3 := hls l[i] (List.getElem_mem hi)
  have hg : (τ ++ [.cap (putY x l i).length 1])[τ.length]? = some (AO.cap (putY x l i).length 1) := by simp
  have := puttext_calls (Γ := Γ) (σ ++ tab σ.length l (τ ++ [.cap (putY x l i).length 1])) (σ.length + (τ.length + 3)) false (putY x l i) l[i] (by rw [tab_get]; exact hg) (by omega) (by omega)
  rw [tab_set, List.set_append_right _ _ (Nat.le_refl _), Nat.sub_self] at this
  rw [putY_step x hi]
  exact this
set_option maxRecDepth 100000 in
theorem tputF_calls (σ τ : Sto) (l : List ByteArray) (x : List UInt8) (hl : l.length < 128) (hls : ∀ s ∈ l, s.size ≤ 65560) (hx : x.length ≤ 1048576) : ACalls prog Γ 11 [.ref (σ.length + 1) 0, .slf 1 (bys x)] (σ ++ tab σ.length l τ) (fun r σ' => r = .slo false 1 (bys (x ++ putL l)) (σ.length + (τ.length + 3)) ∧ σ' = σ ++ tab σ.length l (τ ++ [.cap (x ++ putL l).length 1])) := by
  refine ACalls.of func11 rfl ?_
  simp only [ntmps11, List.length_cons, List.length_nil, Nat.reduceAdd, Nat.reduceSub, List.replicate_succ, List.replicate_zero, List.cons_append, List.nil_append]
  have hw := wrap_u64 (n := l.length) (by omega)
  have hP1 := tputF_one (Γ := Γ) σ τ l x hl hx
  have hP2 := tputF_two (Γ := Γ) σ τ l x hls hl hx
  refine AW.regl false [4] (by rfl) fun K1 hK1 => ?_ -- region 0
  simp only [go_sem, Nat.reduceAdd, Nat.reduceEqDiff, Nat.reduceLeDiff, true_and, tab, List.length_map, aExtract]
  refine hK1 _ _ ?_; try clear hK1 K1
  conv => enter [4]; simp only [setL_cons, setL_nil, List.set_cons_zero, List.set_cons_succ]
  refine AW.regl false [1] (by rfl) fun K2 hK2 => ?_ -- region 1
  simp only [go_sem, Nat.reduceAdd, Nat.reduceEqDiff, Nat.reduceLeDiff, true_and, tab, List.length_map, aExtract, hw]
  refine sC.ofR en22 (hP1) (fun v' σ' hR => ?_)
  obtain ⟨rfl, rfl⟩ := hR
  simp only [go_sem, Nat.reduceAdd, Nat.reduceEqDiff, Nat.reduceLeDiff, true_and, tab, List.length_map, aExtract, hw]
  refine hK2 _ _ ?_; try clear hK2 K2
  conv => enter [4]; simp only [setL_cons, setL_nil, List.set_cons_zero, List.set_cons_succ]
  refine AW.seq_k fun K3 hK3 => ?_
  refine AW.regl false [18, 19, 20] (by rfl) fun K4 hK4 => ?_ -- region 2
  simp only [go_sem, Nat.reduceAdd, Nat.reduceEqDiff, Nat.reduceLeDiff, true_and, tab, List.length_map, aExtract]
  refine hK4 _ _ ?_; try clear hK4 K4
  conv => enter [4]; simp only [setL_cons, setL_nil, List.set_cons_zero, List.set_cons_succ]
  refine AW.block ?_
  refine AW.loop_wk (α := Nat) (fun i => [(.ref (σ.length + 1) 0), (.slo false 1 (bys (putY x l i)) (σ.length + (τ.length + 3))), .any, .any, .any, .any, .any, .any, .any, .any, .any, .any, .any, .any, .any, .any, .any, .any, (.slo true 1 (l.map str) (σ.length + 2)), (i64 l.length), (i64 (i : Nat)), .any, .any, .any, .any, .any, .any, .any, .any]) (fun i => σ ++ tab σ.length l (τ ++ [.cap (putY x l i).length 1])) (fun i => l.length - i) (fun i => i ≤ l.length) 0 ?_ ?_
  · exact ⟨Nat.zero_le _, by simp [Wk], rfl⟩
  · intro i hi
    refine AW.regl false [21] (by rfl) fun K5 hK5 => ?_ -- region 3
    simp only [go_sem, Nat.reduceAdd, Nat.reduceEqDiff, Nat.reduceLeDiff, true_and, tab, List.length_map, aExtract]
    refine hK5 _ _ ?_; try clear hK5 K5
    conv => enter [4]; simp only [setL_cons, setL_nil, List.set_cons_zero, List.set_cons_succ]
    refine AW.seq_k fun K6 hK6 => ?_
    refine AW.cond rfl (fun hc21 => ?_) (fun hc21 => ?_)
    · skip
      have hi1 : i < l.length := by simpa using hc21
      have hxi : (l.map str)[i]? = some (str l[i]) := by simp [hi1]
      refine AW.skip ?_
      refine hK6 _ _ ?_; try clear hK6 K6
      refine AW.seq_k fun K7 hK7 => ?_
      refine AW.block ?_
      refine AW.regl false [6] (by rfl) fun K8 hK8 => ?_ -- region 4
      simp only [go_sem, Nat.reduceAdd, Nat.reduceEqDiff, Nat.reduceLeDiff, true_and, tab, List.length_map, aExtract, at_slo hxi]
      refine hK8 _ _ ?_; try clear hK8 K8
      conv => enter [4]; simp only [setL_cons, setL_nil, List.set_cons_zero, List.set_cons_succ]
      refine AW.lastl false [1] (by rfl) fun K hK => ?_ -- region 5
      simp only [go_sem, Nat.reduceAdd, Nat.reduceEqDiff, Nat.reduceLeDiff, true_and, tab, List.length_map, aExtract]
      refine sC.ofR en23 (hP2 _ hi1) (fun v' σ' hR => ?_)
      obtain ⟨rfl, rfl⟩ := hR
      simp only [go_sem, Nat.reduceAdd, Nat.reduceEqDiff, Nat.reduceLeDiff, true_and, tab, List.length_map, aExtract]
      refine hK _ _ fun env' hw => ?_
      simp only [setL_cons, setL_nil, List.set_cons_zero, List.set_cons_succ] at hw
      refine hK7 _ _ (AW.weaken hw ?_); clear hw; try clear hK7 K7
      refine AW.lastl false [20] (by rfl) fun K hK => ?_ -- region 6
      simp only [go_sem, Nat.reduceAdd, Nat.reduceEqDiff, Nat.reduceLeDiff, true_and, tab, List.length_map, aExtract]
      refine hK _ _ fun env' hw => ?_
      simp only [setL_cons, setL_nil, List.set_cons_zero, List.set_cons_succ] at hw
      refine ⟨i + 1, by omega, by omega, ?_, rfl⟩
      refine hw.trans ?_
      simp [Wk, wrap_succ (show i < 1000 by omega) (by decide)]
    · skip
      have hi1 : i = l.length := by
        have : ¬ i < l.length := by simpa using hc21
        omega
      subst hi1
      refine AW.exit ?_
      refine hK3 _ _ ?_; try clear hK3 K3
      refine AW.regl false [4] (by rfl) fun K9 hK9 => ?_ -- region 7
      simp only [go_sem, Nat.reduceAdd, Nat.reduceEqDiff, Nat.reduceLeDiff, true_and, tab, List.length_map, aExtract]
      refine hK9 _ _ ?_; try clear hK9 K9
      conv => enter [4]; simp only [setL_cons, setL_nil, List.set_cons_zero, List.set_cons_succ]
      exact AW.ret ⟨.inr rfl, _, rfl, by rw [← putY_end], by rw [← putY_end]; rfl⟩

theorem frz_bys {n k : Nat} {σ : Sto} {nl : Bool} (y : List UInt8) (hy : y ≠ []) (hk : n ≤ k) : Frz n σ (.slo nl 1 (bys y) k) (.sl 1 (bys y)) :=
  .own hk (by simpa [bys] using hy) (FrzR.keep (belL_map byteAV y fun _ _ => rfl))
theorem putL_ne (x : List UInt8) (l : List ByteArray) (hl : l.length < 128) : x ++ putL l ≠ [] := by
  rw [putL, pv_small hl]
  simp
theorem tputF_on (σ τ : Sto) (l : List ByteArray) (x : List UInt8) (hl : l.length < 128) (hls : ∀ s ∈ l, s.size ≤ 65560) (hx : x.length ≤ 1048576) : APureOn prog Γ 11 [.ref (σ.length + 1) 0, .slf 1 (bys x)] (σ ++ tab σ.length l τ) (.sl 1 (bys (x ++ putL l))) := by
  intro τ'
  rw [tab_app]
  refine (tputF_calls σ (τ ++ τ') l x hl hls hx).pure fun v σ' hR => ?_
  obtain ⟨rfl, rfl⟩ := hR
  refine ⟨?_, _, frz_bys _ (putL_ne x l hl) (by rw [tab_len]; exact Nat.le_refl _), rfl⟩
  have e := tab_app σ (τ ++ τ') [.cap (x ++ putL l).length 1] l
  rw [← e]
  exact List.take_left' rfl
theorem put_nil (σ τ : Sto) (l : List ByteArray) (hl : l.length < 128) (hls : ∀ s ∈ l, s.size ≤ 65560) : ACalls prog Γ 11 [.ref (σ.length + 1) 0, .nilsl] (σ ++ tab σ.length l τ) (fun r σ' => r = .slo true 1 (bys (putL l)) (σ.length + (τ.length + 3)) ∧ σ' = σ ++ tab σ.length l (τ ++ [.cap (putL l).length 1])) := by
  refine ACalls.nil1 (sz := 1) ?_ (by decide)
  rw [tab_app, tab_len]
  have := tput_calls (Γ := Γ) σ (τ ++ [.cap 0 1]) l true [] τ.length (by simp) (by omega) hls (by simp)
  rw [List.nil_append, List.set_append_right _ _ (Nat.le_refl _), Nat.sub_self] at this
  exact this
theorem conv_slo (σ : Sto) (nl : Bool) (y : List UInt8) (k : Nat) : aConv prog σ 25 9 (.slo nl 1 (bys y) k) = some (str (bs y), σ) := by
  rw [aConv_str (by kernel_rfl) (by kernel_rfl) σ _ (fun _ _ => by simp) (fun _ => by simp), aStrOf_eq (by kernel_rfl) (by kernel_rfl)]
  show ((bytesOf (y.map byteAV)).map fun bs => AV.val (.string ⟨bs.toArray⟩)).map (·, σ) = _
  rw [bytesOf_map]
  rfl
theorem conv_sl (σ : Sto) (y : List UInt8) : aConv prog σ 25 9 (.sl 1 (bys y)) = some (str (bs y), σ) := by
  rw [aConv_str (by kernel_rfl) (by kernel_rfl) σ _ (fun _ _ => by simp) (fun _ => by simp), aStrOf_eq (by kernel_rfl) (by kernel_rfl)]
  show ((bytesOf (y.map byteAV)).map fun bs => AV.val (.string ⟨bs.toArray⟩)).map (·, σ) = _
  rw [bytesOf_map]
  rfl
theorem putL_ne0 (l : List ByteArray) (hl : l.length < 128) : putL l ≠ [] := by
  have := putL_ne [] l hl
  rwa [List.nil_append] at this
theorem put_nilOn (σ τ : Sto) (l : List ByteArray) (hl : l.length < 128) (hls : ∀ s ∈ l, s.size ≤ 65560) : APureOn prog Γ 11 [.ref (σ.length + 1) 0, .nilsl] (σ ++ tab σ.length l τ) (.sl 1 (bys (putL l))) := by
  intro τ'
  rw [tab_app]
  refine (put_nil σ (τ ++ τ') l hl hls).pure fun v σ' hR => ?_
  obtain ⟨rfl, rfl⟩ := hR
  refine ⟨?_, _, frz_bys _ (putL_ne0 l hl) (by rw [tab_len]; exact Nat.le_refl _), rfl⟩
  have e := tab_app σ (τ ++ τ') [.cap (putL l).length 1] l
  rw [← e]
  exact List.take_left' rfl
def Ab : ByteArray := ⟨#[97]⟩
def Bb : ByteArray := ⟨#[98]⟩
theorem put_ab : bs (putL [Ab, Bb]) = ⟨#[2, 1, 97, 1, 98]⟩ := by decide
theorem add1 (σ τ : Sto) (l l2 : List ByteArray) (s : ByteArray) (n : Int) (h1 : addI l s = n) (h2 : addE l s = 0) (h3 : addL l s = l2) : ACalls prog Γ 6 [.ref (σ.length + 1) 0, str s] (σ ++ tab σ.length l τ) (fun v σ' => v = .tup [i64 n, i64 0] ∧ σ' = σ ++ tab σ.length l2 τ) := by
  subst h1 h3
  rw [← h2]
  exact add_calls σ τ l s
theorem own_tab (σ : Sto) {c : Code} {env : Env} {Q : Exit → Env → Sto → Prop} (h : AW prog Γ c env (σ ++ tab σ.length [] []) Q) : AW prog Γ c env (σ ++ [.map [] [], .cells [.nilsl, .mapo σ.length]]) Q := by
  refine AW.cap 1 ?_
  refine AW.own (σ.length + 1) 0 (σ.length + 2) (n := 0) (sz := 1) (cs := [.nilsl, .mapo σ.length]) (by simp) (by rfl) (by simp) (by decide) ?_
  have : ((σ ++ [AO.map [] [], AO.cells [.nilsl, .mapo σ.length]]) ++ [AO.cap 0 1]).set (σ.length + 1) (AO.cells (([.nilsl, .mapo σ.length] : List AV).set 0 (.slo true 1 [] (σ.length + 2)))) = σ ++ tab σ.length [] [] := by
    rw [List.append_assoc, app_set]
    rfl
  rw [this]
  exact h
set_option maxRecDepth 100000 in
theorem awake_calls : APure prog Γ 13 [] (bool true) := by
  refine APure.of func13 rfl fun σ => ?_
  simp only [ntmps13, List.length_cons, List.length_nil, Nat.reduceAdd, Nat.reduceSub, List.replicate_succ, List.replicate_zero, List.cons_append, List.nil_append]
  refine AW.regl false [0] (by rfl) fun K1 hK1 => ?_ -- region 0
  simp only [go_sem, Nat.reduceAdd, Nat.reduceEqDiff, Nat.reduceLeDiff, true_and]
  refine hK1 _ _ ?_; try clear hK1 K1
  conv => enter [4]; simp only [setL_cons, setL_nil, List.set_cons_zero, List.set_cons_succ]
  refine AW.regl false [1] (by rfl) fun K2 hK2 => ?_ -- region 1
  simp only [go_sem, Nat.reduceAdd, Nat.reduceEqDiff, Nat.reduceLeDiff, true_and]
  refine sC.ofR en5 (new_calls σ) (fun v' σ' hR => ?_)
  obtain ⟨rfl, rfl⟩ := hR
  simp only [go_sem, Nat.reduceAdd, Nat.reduceEqDiff, Nat.reduceLeDiff, true_and]
  refine hK2 _ _ ?_; try clear hK2 K2
  conv => enter [4]; simp only [setL_cons, setL_nil, List.set_cons_zero, List.set_cons_succ]
  refine AW.seq_k fun K3 hK3 => ?_
  refine own_tab σ ?_
  refine AW.regl false [10] (by rfl) fun K4 hK4 => ?_ -- region 2
  simp only [go_sem, Nat.reduceAdd, Nat.reduceEqDiff, Nat.reduceLeDiff, true_and]
  refine hK4 _ _ ?_; try clear hK4 K4
  conv => enter [4]; simp only [setL_cons, setL_nil, List.set_cons_zero, List.set_cons_succ]
  refine AW.cond rfl (fun hc10 => ?_) (fun hc10 => ?_)
  · skip
    exact absurd hc10 (by simp)
  · skip
    refine AW.skip ?_
    refine hK3 _ _ ?_; try clear hK3 K3
    refine AW.regl false [2] (by rfl) fun K5 hK5 => ?_ -- region 4
    simp only [go_sem, Nat.reduceAdd, Nat.reduceEqDiff, Nat.reduceLeDiff, true_and]
    refine sC.ofR en6 (add1 σ [] [] [Ab] Ab 0 (by decide) (by decide) (by decide)) (fun v' σ' hR => ?_)
    obtain ⟨rfl, rfl⟩ := hR
    simp only [go_sem, Nat.reduceAdd, Nat.reduceEqDiff, Nat.reduceLeDiff, true_and]
    refine hK5 _ _ ?_; try clear hK5 K5
    conv => enter [4]; simp only [setL_cons, setL_nil, List.set_cons_zero, List.set_cons_succ]
    refine AW.regl false [4] (by rfl) fun K6 hK6 => ?_ -- region 5
    simp only [go_sem, Nat.reduceAdd, Nat.reduceEqDiff, Nat.reduceLeDiff, true_and]
    refine sC.ofR en6 (add1 σ [] [Ab] [Ab, Bb] Bb 1 (by decide) (by decide) (by decide)) (fun v' σ' hR => ?_)
    obtain ⟨rfl, rfl⟩ := hR
    simp only [go_sem, Nat.reduceAdd, Nat.reduceEqDiff, Nat.reduceLeDiff, true_and]
    refine hK6 _ _ ?_; try clear hK6 K6
    conv => enter [4]; simp only [setL_cons, setL_nil, List.set_cons_zero, List.set_cons_succ]
    refine AW.regl false [6] (by rfl) fun K7 hK7 => ?_ -- region 6
    simp only [go_sem, Nat.reduceAdd, Nat.reduceEqDiff, Nat.reduceLeDiff, true_and]
    refine sC.ofR en6 (add1 σ [] [Ab, Bb] [Ab, Bb] Ab 0 (by decide) (by decide) (by decide)) (fun v' σ' hR => ?_)
    obtain ⟨rfl, rfl⟩ := hR
    simp only [go_sem, Nat.reduceAdd, Nat.reduceEqDiff, Nat.reduceLeDiff, true_and]
    refine hK7 _ _ ?_; try clear hK7 K7
    conv => enter [4]; simp only [setL_cons, setL_nil, List.set_cons_zero, List.set_cons_succ]
    refine AW.regtf false 0 (.val (.bool (true))) (by rfl) ?_ ?_ -- region 7
    · skip
      simp only [go_sem, Nat.reduceAdd, Nat.reduceEqDiff, Nat.reduceLeDiff, true_and, conv_sl, put_ab, beq_self_eq_true]
      refine sC.of en11 (put_nilOn σ [] [Ab, Bb] (by decide) (by decide)).here (by rfl) ?_
      simp only [go_sem, Nat.reduceAdd, Nat.reduceEqDiff, Nat.reduceLeDiff, true_and, conv_sl, put_ab, beq_self_eq_true]
      try simp [upd_at, conv_sl, put_ab, beq_self_eq_true]
    conv => enter [4]; simp only [List.set_cons_zero, List.set_cons_succ]
    refine AW.ret ⟨.inr rfl, _, rfl, by simp, ?_⟩
    exact .keep rfl
end Go.Proofs.Try
