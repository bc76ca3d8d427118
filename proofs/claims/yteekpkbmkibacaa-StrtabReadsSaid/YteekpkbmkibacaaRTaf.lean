import Derived.Test.YteekpkbmkibacaaRTae
/-! The bytes of a living table. -/
namespace Go.Proofs.Try
set_option linter.unusedSimpArgs false
set_option linter.unusedVariables false
open Go Go.Proofs.Ev
variable {Γ : List (Nat × List AV)}
theorem pv_len (v : Nat) : (pv v).length ≤ 10 := pvB_len 9 v
/-- A text's bytes. -/
def ptl (s : ByteArray) : List UInt8 := pv s.size ++ s.data.toList
theorem ptl_len (s : ByteArray) : (ptl s).length ≤ 10 + s.size := by
  have := pv_len s.size
  simp only [ptl, List.length_append]
  have : s.data.toList.length = s.size := rfl
  omega
theorem ptb_data {l : List ByteArray} : ∀ i, i ≤ l.length → (ptb l i).data.toList = pv l.length ++ (l.take i).flatMap ptl
  | 0, _ => by simp [ptb, bs]
  | i + 1, h => by
    rw [ptb_step (by omega), List.take_succ_eq_append_getElem (by omega), List.flatMap_append]
    have := ptb_data (l := l) i (by omega)
    simp only [ByteArray.data_append, Array.toList_append, this, pt_data, List.append_assoc, List.flatMap_singleton, ptl]
set_option maxRecDepth 100000 in
theorem puttext_calls (σ : Sto) (k : Nat) (nl : Bool) (x : List UInt8) (s : ByteArray) (hk : σ[k]? = some (.cap x.length 1)) (hs : s.size ≤ 4294967296) (hx : x.length ≤ 1073741824) : ACalls prog Γ 23 [.slo nl 1 (bys x) k, str s] σ (fun r σ' => r = .slo nl 1 (bys (x ++ ptl s)) k ∧ σ' = σ.set k (.cap (x ++ ptl s).length 1)) := by
  refine ACalls.of func23 rfl ?_
  simp only [ntmps23, List.length_cons, List.length_nil, Nat.reduceAdd, Nat.reduceSub, List.replicate_succ, List.replicate_zero, List.cons_append, List.nil_append]
  have hw := wrap_u64 (n := s.size) (by omega)
  have hs2 : s.data.toList.length = s.size := rfl
  have hP := putvar_calls (Γ := Γ) σ k nl x s.size hk (by omega) hx
  obtain ⟨Y, hY⟩ : ∃ Y, Y = x ++ pv s.size := ⟨_, rfl⟩
  rw [← hY] at hP
  have hget := get_set (x := .cap Y.length 1) hk
  have hap := appn σ hk nl Y s.data.toList (by have := pv_len s.size; rw [hY, List.length_append]; omega)
  refine AW.regl false [4] (by rfl) fun K1 hK1 => ?_ -- region 0
  simp only [go_sem, Nat.reduceAdd, Nat.reduceEqDiff, Nat.reduceLeDiff, true_and]
  refine hK1 _ _ ?_; try clear hK1 K1
  conv => enter [5]; simp only [setL_cons, setL_nil, List.set_cons_zero, List.set_cons_succ]
  refine AW.regl false [4] (by rfl) fun K2 hK2 => ?_ -- region 1
  simp only [go_sem, Nat.reduceAdd, Nat.reduceEqDiff, Nat.reduceLeDiff, true_and, hw, src_str, hget, hap]
  refine sC.ofR en22 (hP) (fun v' σ' hR => ?_)
  obtain ⟨rfl, rfl⟩ := hR
  simp only [go_sem, Nat.reduceAdd, Nat.reduceEqDiff, Nat.reduceLeDiff, true_and, hw, src_str, hget, hap]
  refine hK2 _ _ ?_; try clear hK2 K2
  conv => enter [5]; simp only [setL_cons, setL_nil, List.set_cons_zero, List.set_cons_succ]
  exact AW.ret ⟨.inr rfl, _, rfl, by simp [hY, ptl], by simp [hY, ptl, Nat.add_assoc]⟩

def putY (x : List UInt8) (l : List ByteArray) (i : Nat) : List UInt8 := x ++ pv l.length ++ (l.take i).flatMap ptl
def putL (l : List ByteArray) : List UInt8 := pv l.length ++ l.flatMap ptl
theorem putY_end (x : List UInt8) (l : List ByteArray) : putY x l l.length = x ++ putL l := by simp [putY, putL]
theorem putY_step (x : List UInt8) {l : List ByteArray} {i : Nat} (h : i < l.length) : putY x l (i + 1) = putY x l i ++ ptl l[i] := by
  rw [putY, putY, List.take_succ_eq_append_getElem h, List.flatMap_append]
  simp
theorem putY_len (x : List UInt8) {l : List ByteArray} (hls : ∀ s ∈ l, s.size ≤ 65560) : ∀ i, i ≤ l.length → (putY x l i).length ≤ x.length + 10 + i * 65570
  | 0, _ => by
    have := pv_len l.length
    simp only [putY, List.take_zero, List.flatMap_nil, List.append_nil, List.length_append]
    omega
  | i + 1, h => by
    have h1 := putY_len x hls i (by omega)
    have h2 := ptl_len l[i]
    have h3 := hls l[i] (List.getElem_mem (by omega))
    rw [putY_step x (by omega), List.length_append, Nat.add_mul]
    omega
theorem tab_get (σ τ : Sto) (l : List ByteArray) (j : Nat) : (σ ++ tab σ.length l τ)[σ.length + (j + 3)]? = τ[j]? := by
  rw [app_get]
  rfl
theorem tab_set (σ τ : Sto) (l : List ByteArray) (j : Nat) (x : AO) : (σ ++ tab σ.length l τ).set (σ.length + (j + 3)) x = σ ++ tab σ.length l (τ.set j x) := by
  rw [app_set]
  rfl
theorem tput_one (σ τ : Sto) (l : List ByteArray) (nl : Bool) (x : List UInt8) (j : Nat) (hk : τ[j]? = some (.cap x.length 1)) (hl : l.length ≤ 3000) (hx : x.length ≤ 1048576) : ACalls prog Γ 22 [.slo nl 1 (bys x) (σ.length + (j + 3)), .val (.int .u64 (l.length : Nat))] (σ ++ tab σ.length l τ) (fun r σ' => r = .slo nl 1 (bys (putY x l 0)) (σ.length + (j + 3)) ∧ σ' = σ ++ tab σ.length l (τ.set j (.cap (putY x l 0).length 1))) := by
  have := putvar_calls (Γ := Γ) (σ ++ tab σ.length l τ) (σ.length + (j + 3)) nl x l.length (by rw [tab_get, hk]) (by omega) (by omega)
  rw [tab_set] at this
  rw [show putY x l 0 = x ++ pv l.length by simp [putY]]
  exact this
theorem tput_two (σ τ : Sto) (l : List ByteArray) (nl : Bool) (x : List UInt8) (j : Nat) (hk : τ[j]? = some (.cap x.length 1)) (hls : ∀ s ∈ l, s.size ≤ 65560) (hl : l.length ≤ 3000) (hx : x.length ≤ 1048576) (i : Nat) (hi : i < l.length) : ACalls prog Γ 23 [.slo nl 1 (bys (putY x l i)) (σ.length + (j + 3)), str l[i]] (σ ++ tab σ.length l (τ.set j (.cap (putY x l i).length 1))) (fun r σ' => r = .slo nl 1 (bys (putY x l (i + 1))) (σ.length + (j + 3)) ∧ σ' = σ ++ tab σ.length l (τ.set j (.cap (putY x l (i + 1)).length 1))) := by
  have h1 := putY_len x hls i (by omega)
  have h3 := hls l[i] (List.getElem_mem hi)
  have := puttext_calls (Γ := Γ) (σ ++ tab σ.length l (τ.set j (.cap (putY x l i).length 1))) (σ.length + (j + 3)) nl (putY x l i) l[i] (by rw [tab_get]; exact get_set hk) (by omega) (by omega)
  rw [tab_set, List.set_set] at this
  rw [putY_step x hi]
  exact this
set_option maxRecDepth 100000 in
theorem tput_calls (σ τ : Sto) (l : List ByteArray) (nl : Bool) (x : List UInt8) (j : Nat) (hk : τ[j]? = some (.cap x.length 1)) (hl : l.length ≤ 3000) (hls : ∀ s ∈ l, s.size ≤ 65560) (hx : x.length ≤ 1048576) : ACalls prog Γ 11 [.ref (σ.length + 1) 0, .slo nl 1 (bys x) (σ.length + (j + 3))] (σ ++ tab σ.length l τ) (fun r σ' => r = .slo nl 1 (bys (x ++ putL l)) (σ.length + (j + 3)) ∧ σ' = σ ++ tab σ.length l (τ.set j (.cap (x ++ putL l).length 1))) := by
  refine ACalls.of func11 rfl ?_
  simp only [ntmps11, List.length_cons, List.length_nil, Nat.reduceAdd, Nat.reduceSub, List.replicate_succ, List.replicate_zero, List.cons_append, List.nil_append]
  have hw := wrap_u64 (n := l.length) (by omega)
  have hP1 := tput_one (Γ := Γ) σ τ l nl x j hk hl hx
  have hP2 := tput_two (Γ := Γ) σ τ l nl x j hk hls hl hx
  refine AW.regl false [4] (by rfl) fun K1 hK1 => ?_ -- region 0
  simp only [go_sem, Nat.reduceAdd, Nat.reduceEqDiff, Nat.reduceLeDiff, true_and, tab, List.length_map, aExtract]
  refine hK1 _ _ ?_; try clear hK1 K1
  conv => enter [5]; simp only [setL_cons, setL_nil, List.set_cons_zero, List.set_cons_succ]
  refine AW.regl false [1] (by rfl) fun K2 hK2 => ?_ -- region 1
  simp only [go_sem, Nat.reduceAdd, Nat.reduceEqDiff, Nat.reduceLeDiff, true_and, tab, List.length_map, aExtract, hw]
  refine sC.ofR en22 (hP1) (fun v' σ' hR => ?_)
  obtain ⟨rfl, rfl⟩ := hR
  simp only [go_sem, Nat.reduceAdd, Nat.reduceEqDiff, Nat.reduceLeDiff, true_and, tab, List.length_map, aExtract, hw]
  refine hK2 _ _ ?_; try clear hK2 K2
  conv => enter [5]; simp only [setL_cons, setL_nil, List.set_cons_zero, List.set_cons_succ]
  refine AW.seq_k fun K3 hK3 => ?_
  refine AW.regl false [18, 19, 20] (by rfl) fun K4 hK4 => ?_ -- region 2
  simp only [go_sem, Nat.reduceAdd, Nat.reduceEqDiff, Nat.reduceLeDiff, true_and, tab, List.length_map, aExtract]
  refine hK4 _ _ ?_; try clear hK4 K4
  conv => enter [5]; simp only [setL_cons, setL_nil, List.set_cons_zero, List.set_cons_succ]
  refine AW.block ?_
  refine AW.loop_wk (α := Nat) (fun i => [(.ref (σ.length + 1) 0), (.slo nl 1 (bys (putY x l i)) (σ.length + (j + 3))), .any, .any, .any, .any, .any, .any, .any, .any, .any, .any, .any, .any, .any, .any, .any, .any, (.slo true 1 (l.map str) (σ.length + 2)), (i64 l.length), (i64 (i : Nat)), .any, .any, .any, .any, .any, .any, .any, .any]) (fun i => σ ++ tab σ.length l (τ.set j (.cap (putY x l i).length 1))) (fun i => l.length - i) (fun i => i ≤ l.length) 0 ?_ ?_
  · exact ⟨Nat.zero_le _, by simp [Wk], rfl⟩
  · intro i hi
    refine AW.regl false [21] (by rfl) fun K5 hK5 => ?_ -- region 3
    simp only [go_sem, Nat.reduceAdd, Nat.reduceEqDiff, Nat.reduceLeDiff, true_and, tab, List.length_map, aExtract]
    refine hK5 _ _ ?_; try clear hK5 K5
    conv => enter [5]; simp only [setL_cons, setL_nil, List.set_cons_zero, List.set_cons_succ]
    refine AW.seq_k fun K6 hK6 => ?_
    refine AW.cond rfl (fun hc21 => ?_) (fun hc21 => ?_)
    · skip
      have hi1 : i < l.length := by simpa using hc21
      have hxi : (l.map str)[i]? = some (str l[i]) := by simp [hi1]
      refine AW.skip ?_
      refine hK6 _ _ ?_; try clear hK6 K6
      refine AW.seq_k fun K7 hK7 => ?_
      refine AW.block ?_
      refine AW.regl false [6] (by rfl) fun K8 hK8 => ?_ -- region 4
      simp only [go_sem, Nat.reduceAdd, Nat.reduceEqDiff, Nat.reduceLeDiff, true_and, tab, List.length_map, aExtract, at_slo hxi]
      refine hK8 _ _ ?_; try clear hK8 K8
      conv => enter [5]; simp only [setL_cons, setL_nil, List.set_cons_zero, List.set_cons_succ]
      refine AW.lastl false [1] (by rfl) fun K hK => ?_ -- region 5
      simp only [go_sem, Nat.reduceAdd, Nat.reduceEqDiff, Nat.reduceLeDiff, true_and, tab, List.length_map, aExtract]
      refine sC.ofR en23 (hP2 _ hi1) (fun v' σ' hR => ?_)
      obtain ⟨rfl, rfl⟩ := hR
      simp only [go_sem, Nat.reduceAdd, Nat.reduceEqDiff, Nat.reduceLeDiff, true_and, tab, List.length_map, aExtract]
      refine hK _ _ fun env' hw => ?_
      simp only [setL_cons, setL_nil, List.set_cons_zero, List.set_cons_succ] at hw
      refine hK7 _ _ (AW.weaken hw ?_); clear hw; try clear hK7 K7
      refine AW.lastl false [20] (by rfl) fun K hK => ?_ -- region 6
      simp only [go_sem, Nat.reduceAdd, Nat.reduceEqDiff, Nat.reduceLeDiff, true_and, tab, List.length_map, aExtract]
      refine hK _ _ fun env' hw => ?_
      simp only [setL_cons, setL_nil, List.set_cons_zero, List.set_cons_succ] at hw
      refine ⟨i + 1, by omega, by omega, ?_, rfl⟩
      refine hw.trans ?_
      simp [Wk, wrap_succ (show i < 3000 by omega) (by decide)]
    · skip
      have hi1 : i = l.length := by
        have : ¬ i < l.length := by simpa using hc21
        omega
      subst hi1
      refine AW.exit ?_
      refine hK3 _ _ ?_; try clear hK3 K3
      refine AW.regl false [4] (by rfl) fun K9 hK9 => ?_ -- region 7
      simp only [go_sem, Nat.reduceAdd, Nat.reduceEqDiff, Nat.reduceLeDiff, true_and, tab, List.length_map, aExtract]
      refine hK9 _ _ ?_; try clear hK9 K9
      conv => enter [5]; simp only [setL_cons, setL_nil, List.set_cons_zero, List.set_cons_succ]
      exact AW.ret ⟨.inr rfl, _, rfl, by rw [← putY_end], by rw [← putY_end]; rfl⟩
end Go.Proofs.Try

