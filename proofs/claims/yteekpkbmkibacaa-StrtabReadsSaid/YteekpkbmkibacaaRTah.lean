import Derived.Test.YteekpkbmkibacaaRTag
/-! Bytes behind a full row, and the example. -/
namespace Go.Proofs.Try
set_option linter.unusedSimpArgs false
set_option linter.unusedVariables false
open Go Go.Proofs.Ev
variable {Γ : List (Nat × List AV)}
theorem tab_app (σ τ τ' : Sto) (l : List ByteArray) : (σ ++ tab σ.length l τ) ++ τ' = σ ++ tab σ.length l (τ ++ τ') := by simp [tab]
theorem tab_len (σ τ : Sto) (l : List ByteArray) : (σ ++ tab σ.length l τ).length = σ.length + (τ.length + 3) := by simp [tab]
theorem pv_small {v : Nat} (h : v < 128) : pv v = [UInt8.ofNat v] := pvB_lt h


theorem frz_bys {n k : Nat} {σ : Sto} {nl : Bool} (y : List UInt8) (hy : y ≠ []) (hk : n ≤ k) : Frz n σ (.slo nl 1 (bys y) k) (.sl 1 (bys y)) :=
  .own hk (by simpa [bys] using hy) (FrzR.keep (belL_map byteAV y fun _ _ => rfl))
theorem putL_ne (x : List UInt8) (l : List ByteArray) (hl : l.length < 128) : x ++ putL l ≠ [] := by
  rw [putL, pv_small hl]
  simp
theorem put_nil (σ τ : Sto) (l : List ByteArray) (hl : l.length < 128) (hls : ∀ s ∈ l, s.size ≤ 65560) : ACalls prog Γ 11 [.ref (σ.length + 1) 0, .nilsl] (σ ++ tab σ.length l τ) (fun r σ' => r = .slo true 1 (bys (putL l)) (σ.length + (τ.length + 3)) ∧ σ' = σ ++ tab σ.length l (τ ++ [.cap (putL l).length 1])) := by
  refine ACalls.nil1 (sz := 1) ?_ (by decide)
  rw [tab_app, tab_len]
  have := tput_calls (Γ := Γ) σ (τ ++ [.cap 0 1]) l true [] τ.length (by simp) (by omega) hls (by simp)
  rw [List.nil_append, List.set_append_right _ _ (Nat.le_refl _), Nat.sub_self] at this
  exact this
theorem conv_sl (σ : Sto) (y : List UInt8) : aConv prog σ 25 9 (.sl 1 (bys y)) = some (str (bs y), σ) := by
  rw [aConv_str (by kernel_rfl) (by kernel_rfl) σ _ (fun _ _ => by simp) (fun _ => by simp), aStrOf_eq (by kernel_rfl) (by kernel_rfl)]
  show ((bytesOf (y.map byteAV)).map fun bs => AV.val (.string ⟨bs.toArray⟩)).map (·, σ) = _
  rw [bytesOf_map]
  rfl
theorem putL_ne0 (l : List ByteArray) (hl : l.length < 128) : putL l ≠ [] := by
  have := putL_ne [] l hl
  rwa [List.nil_append] at this
theorem put_nilOn (σ τ : Sto) (l : List ByteArray) (hl : l.length < 128) (hls : ∀ s ∈ l, s.size ≤ 65560) : APureOn prog Γ 11 [.ref (σ.length + 1) 0, .nilsl] (σ ++ tab σ.length l τ) (.sl 1 (bys (putL l))) := by
  intro τ'
  rw [tab_app]
  refine (put_nil σ (τ ++ τ') l hl hls).pure fun v σ' hR => ?_
  obtain ⟨rfl, rfl⟩ := hR
  refine ⟨?_, _, frz_bys _ (putL_ne0 l hl) (by rw [tab_len]; exact Nat.le_refl _), rfl⟩
  have e := tab_app σ (τ ++ τ') [.cap (putL l).length 1] l
  rw [← e]
  exact List.take_left' rfl
def Ab : ByteArray := ⟨#[97]⟩
def Bb : ByteArray := ⟨#[98]⟩
theorem put_ab : bs (putL [Ab, Bb]) = ⟨#[2, 1, 97, 1, 98]⟩ := by decide
theorem add1 (σ τ : Sto) (l l2 : List ByteArray) (s : ByteArray) (n : Int) (h1 : addI l s = n) (h2 : addE l s = 0) (h3 : addL l s = l2) : ACalls prog Γ 6 [.ref (σ.length + 1) 0, str s] (σ ++ tab σ.length l τ) (fun v σ' => v = .tup [i64 n, i64 0] ∧ σ' = σ ++ tab σ.length l2 τ) := by
  subst h1 h3
  rw [← h2]
  exact add_calls σ τ l s
theorem own_tab {F : Fr} (σ : Sto) {c : Code} {env : Env} {Q : Exit → Env → Sto → Prop} (h : AW F prog Γ c env (σ ++ tab σ.length [] []) Q) : AW F prog Γ c env (σ ++ [.map [] [], .cells [.nilsl, .mapo σ.length]]) Q := by
  refine AW.cap 1 ?_
  refine AW.own (σ.length + 1) 0 (σ.length + 2) (n := 0) (sz := 1) (cs := [.nilsl, .mapo σ.length]) (by simp) (by rfl) (by simp) (by decide) ?_
  have : ((σ ++ [AO.map [] [], AO.cells [.nilsl, .mapo σ.length]]) ++ [AO.cap 0 1]).set (σ.length + 1) (AO.cells (([.nilsl, .mapo σ.length] : List AV).set 0 (.slo true 1 [] (σ.length + 2)))) = σ ++ tab σ.length [] [] := by
    rw [List.append_assoc, app_set]
    rfl
  rw [this]
  exact h
set_option maxRecDepth 100000 in
theorem awake_calls : APure prog Γ 13 [] (bool true) := by
  refine APure.of func13 rfl fun σ => ?_
  simp only [ntmps13, List.length_cons, List.length_nil, Nat.reduceAdd, Nat.reduceSub, List.replicate_succ, List.replicate_zero, List.cons_append, List.nil_append]
  refine AW.regl false [0] (by rfl) fun K1 hK1 => ?_ -- region 0
  simp only [go_sem, Nat.reduceAdd, Nat.reduceEqDiff, Nat.reduceLeDiff, true_and]
  refine hK1 _ _ ?_; try clear hK1 K1
  conv => enter [5]; simp only [setL_cons, setL_nil, List.set_cons_zero, List.set_cons_succ]
  refine AW.regl false [1] (by rfl) fun K2 hK2 => ?_ -- region 1
  simp only [go_sem, Nat.reduceAdd, Nat.reduceEqDiff, Nat.reduceLeDiff, true_and]
  refine sC.ofR en5 (new_calls σ) (fun v' σ' hR => ?_)
  obtain ⟨rfl, rfl⟩ := hR
  simp only [go_sem, Nat.reduceAdd, Nat.reduceEqDiff, Nat.reduceLeDiff, true_and]
  refine hK2 _ _ ?_; try clear hK2 K2
  conv => enter [5]; simp only [setL_cons, setL_nil, List.set_cons_zero, List.set_cons_succ]
  refine AW.seq_k fun K3 hK3 => ?_
  refine own_tab σ ?_
  refine AW.regl false [10] (by rfl) fun K4 hK4 => ?_ -- region 2
  simp only [go_sem, Nat.reduceAdd, Nat.reduceEqDiff, Nat.reduceLeDiff, true_and]
  refine hK4 _ _ ?_; try clear hK4 K4
  conv => enter [5]; simp only [setL_cons, setL_nil, List.set_cons_zero, List.set_cons_succ]
  refine AW.cond rfl (fun hc10 => ?_) (fun hc10 => ?_)
  · skip
    exact absurd hc10 (by simp)
  · skip
    refine AW.skip ?_
    refine hK3 _ _ ?_; try clear hK3 K3
    refine AW.regl false [2] (by rfl) fun K5 hK5 => ?_ -- region 4
    simp only [go_sem, Nat.reduceAdd, Nat.reduceEqDiff, Nat.reduceLeDiff, true_and]
    refine sC.ofR en6 (add1 σ [] [] [Ab] Ab 0 (by decide) (by decide) (by decide)) (fun v' σ' hR => ?_)
    obtain ⟨rfl, rfl⟩ := hR
    simp only [go_sem, Nat.reduceAdd, Nat.reduceEqDiff, Nat.reduceLeDiff, true_and]
    refine hK5 _ _ ?_; try clear hK5 K5
    conv => enter [5]; simp only [setL_cons, setL_nil, List.set_cons_zero, List.set_cons_succ]
    refine AW.regl false [4] (by rfl) fun K6 hK6 => ?_ -- region 5
    simp only [go_sem, Nat.reduceAdd, Nat.reduceEqDiff, Nat.reduceLeDiff, true_and]
    refine sC.ofR en6 (add1 σ [] [Ab] [Ab, Bb] Bb 1 (by decide) (by decide) (by decide)) (fun v' σ' hR => ?_)
    obtain ⟨rfl, rfl⟩ := hR
    simp only [go_sem, Nat.reduceAdd, Nat.reduceEqDiff, Nat.reduceLeDiff, true_and]
    refine hK6 _ _ ?_; try clear hK6 K6
    conv => enter [5]; simp only [setL_cons, setL_nil, List.set_cons_zero, List.set_cons_succ]
    refine AW.regl false [6] (by rfl) fun K7 hK7 => ?_ -- region 6
    simp only [go_sem, Nat.reduceAdd, Nat.reduceEqDiff, Nat.reduceLeDiff, true_and]
    refine sC.ofR en6 (add1 σ [] [Ab, Bb] [Ab, Bb] Ab 0 (by decide) (by decide) (by decide)) (fun v' σ' hR => ?_)
    obtain ⟨rfl, rfl⟩ := hR
    simp only [go_sem, Nat.reduceAdd, Nat.reduceEqDiff, Nat.reduceLeDiff, true_and]
    refine hK7 _ _ ?_; try clear hK7 K7
    conv => enter [5]; simp only [setL_cons, setL_nil, List.set_cons_zero, List.set_cons_succ]
    refine AW.regtf false 0 (.val (.bool (true))) (by rfl) ?_ ?_ -- region 7
    · skip
      simp only [go_sem, Nat.reduceAdd, Nat.reduceEqDiff, Nat.reduceLeDiff, true_and, conv_sl, put_ab, beq_self_eq_true]
      refine sC.of en11 (put_nilOn σ [] [Ab, Bb] (by decide) (by decide)).here (by rfl) ?_
      simp only [go_sem, Nat.reduceAdd, Nat.reduceEqDiff, Nat.reduceLeDiff, true_and, conv_sl, put_ab, beq_self_eq_true]
      try simp [upd_at, conv_sl, put_ab, beq_self_eq_true]
    conv => enter [5]; simp only [List.set_cons_zero, List.set_cons_succ]
    refine AW.ret ⟨.inr rfl, _, rfl, by simp, ?_⟩
    exact .keep rfl
end Go.Proofs.Try

