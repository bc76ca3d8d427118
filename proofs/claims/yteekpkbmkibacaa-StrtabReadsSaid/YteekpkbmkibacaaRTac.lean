import Derived.Test.YteekpkbmkibacaaRTab
/-! Tables of texts: what the document's functions come to, and bytes. -/
namespace Go.Proofs.Try
set_option linter.unusedSimpArgs false
set_option linter.unusedVariables false
open Go Go.Proofs.Ev
variable {Γ : List (Nat × List AV)}
theorem srcS_row (nl : Bool) (l : List AV) : aSrcS 1 (rowAV 1 nl l) = some l := by
  cases l with
  | nil => cases nl <;> rfl
  | cons a l => simp [rowAV, aSrcS]
theorem ap_all (σ : Sto) (k : Nat) (l : List AV) (hl : l.length ≤ 16777215) (hk : σ[k]? = some (.cap 0 1)) : appAt σ false 1 16 [] k l (some (.cap 0 1)) = some (.slo false 1 l k, σ.set k (.cap l.length 1)) := by
  have hf : fits l.length 16 = true := by
    simp only [fits, Bool.and_eq_true, decide_eq_true_eq]
    omega
  cases l with
  | nil =>
    have : σ.set k (.cap 0 1) = σ := set_self hk
    simp [appAt, this]
    decide
  | cons a l => simp [appAt] at hf ⊢; simp [hf]
def fR (l : List ByteArray) (s : ByteArray) : Int := match findS l s with
  | some i => (i : Nat)
  | none => -1
theorem findS_drop {l : List ByteArray} {s : ByteArray} {i : Nat} (h : i < l.length) : findS (l.drop i) s = if s = l[i] then some 0 else (findS (l.drop (i + 1)) s).map (· + 1) := by
  rw [List.drop_eq_getElem_cons h]
  rfl
theorem fR_ge (l : List ByteArray) (s : ByteArray) : decide (fR l s ≥ 0) = (findS l s).isSome := by
  unfold fR
  cases findS l s with
  | none => rfl
  | some i => simp
theorem strs_bel (l : List ByteArray) (n : Nat) : belL n (l.map str) = true := belL_map str l fun _ _ => rfl
/-- A number by sevens. -/
def pvB : Nat → Nat → List UInt8
  | 0, v => [UInt8.ofNat v]
  | f + 1, v => if v < 128 then [UInt8.ofNat v] else UInt8.ofNat (v % 128 + 128) :: pvB f (v / 128)
def pv (v : Nat) : List UInt8 := pvB 9 v
def bs (l : List UInt8) : ByteArray := ⟨l.toArray⟩
theorem bs_app (a b : List UInt8) : bs a ++ bs b = bs (a ++ b) := by
  apply Go.WideShapes.bytes_inj
  simp [bs]
theorem bs_size (a : List UInt8) : (bs a).size = a.length := by simp [bs, ByteArray.size]
theorem wrap_u8 (n : Nat) : IntKind.wrap .u8 (n : Int) = ((UInt8.ofNat n).toNat : Int) := by
  have hb : IntKind.bits .u8 = 8 := rfl
  have hs : IntKind.signed .u8 = false := rfl
  simp only [IntKind.wrap, hb, hs, Bool.false_and, Bool.false_eq_true, if_false]
  simp
theorem wrap_u64 {n : Nat} (h : n < 18446744073709551616) : IntKind.wrap .u64 (n : Int) = (n : Int) := by
  have hb : IntKind.bits .u64 = 64 := rfl
  have hs : IntKind.signed .u64 = false := rfl
  simp only [IntKind.wrap, hb, hs, Bool.false_and, Bool.false_eq_true, if_false]
  omega
theorem conv1 (σ : Sto) (b : UInt8) : aConv prog σ 25 9 (.slf 1 [.val (.int .u8 (b.toNat : Int))]) = some (str (bs [b]), σ) := by
  rw [aConv_str (by kernel_rfl) (by kernel_rfl) σ _ (fun _ _ => by simp) (fun _ => by simp), aStrOf_eq (by kernel_rfl) (by kernel_rfl)]
  show ((bytesOf ([b].map byteAV)).map fun bs => AV.val (.string ⟨bs.toArray⟩)).map (·, σ) = _
  rw [bytesOf_map]
  rfl
theorem cat_str {a b : List UInt8} (T : TypeId) (h : a.length + b.length ≤ 4611686018427387904) : aBin prog .add T (str (bs a)) (str (bs b)) = some (str (bs (a ++ b))) := by
  have hm : IntKind.i64.max = 9223372036854775807 := by decide
  simp only [aBin, aStr, bs_size, hm]
  rw [if_neg (by omega), bs_app]
  rfl
theorem pvB_len : ∀ (f v : Nat), (pvB f v).length ≤ f + 1
  | 0, v => by simp [pvB]
  | f + 1, v => by
    unfold pvB
    split
    · simp
    · simp only [List.length_cons]
      have := pvB_len f (v / 128)
      omega
set_option maxRecDepth 100000 in
theorem new_calls (σ : Sto) : ACalls prog Γ 5 [] σ (fun v σ' => v = .ref (σ.length + 1) 0 ∧ σ' = σ ++ [.map [] [], .cells [.nilsl, .mapo σ.length]]) := by
  refine ACalls.of func5 rfl ?_
  simp only [ntmps5, List.length_cons, List.length_nil, Nat.reduceAdd, Nat.reduceSub, List.replicate_succ, List.replicate_zero, List.cons_append, List.nil_append]
  refine AW.regl false [0] (by rfl) fun K1 hK1 => ?_ -- region 0
  simp only [go_sem, Nat.reduceAdd, Nat.reduceEqDiff, Nat.reduceLeDiff, true_and, aMakeMap]
  refine hK1 _ _ ?_; try clear hK1 K1
  conv => enter [5]; simp only [setL_cons, setL_nil, List.set_cons_zero, List.set_cons_succ]
  refine AW.regl false [0] (by rfl) fun K2 hK2 => ?_ -- region 1
  simp only [go_sem, Nat.reduceAdd, Nat.reduceEqDiff, Nat.reduceLeDiff, true_and, aMakeMap]
  refine hK2 _ _ ?_; try clear hK2 K2
  conv => enter [5]; simp only [setL_cons, setL_nil, List.set_cons_zero, List.set_cons_succ]
  exact AW.ret ⟨.inr rfl, _, rfl, by simp, by simp⟩

set_option maxRecDepth 100000 in
theorem rfind_calls (nl : Bool) (l : List ByteArray) (s : ByteArray) (hl : l.length ≤ maxLen) : APure prog Γ 19 [rowAV 1 nl (l.map str), str s] (i64 (fR l s)) := by
  refine APure.of func19 rfl fun σ => ?_
  simp only [ntmps19, List.length_cons, List.length_nil, Nat.reduceAdd, Nat.reduceSub, List.replicate_succ, List.replicate_zero, List.cons_append, List.nil_append]
  refine AW.regl false [4] (by rfl) fun K1 hK1 => ?_ -- region 0
  simp only [go_sem, Nat.reduceAdd, Nat.reduceEqDiff, Nat.reduceLeDiff, true_and, List.length_map, ba_beqL]
  refine hK1 _ _ ?_; try clear hK1 K1
  conv => enter [5]; simp only [setL_cons, setL_nil, List.set_cons_zero, List.set_cons_succ]
  refine AW.seq_k fun K2 hK2 => ?_
  refine AW.regl false [5] (by rfl) fun K3 hK3 => ?_ -- region 1
  simp only [go_sem, Nat.reduceAdd, Nat.reduceEqDiff, Nat.reduceLeDiff, true_and, List.length_map, ba_beqL]
  refine hK3 _ _ ?_; try clear hK3 K3
  conv => enter [5]; simp only [setL_cons, setL_nil, List.set_cons_zero, List.set_cons_succ]
  refine AW.block ?_
  refine AW.loop_wk (α := Nat) (fun i => [(rowAV 1 nl (l.map str)), (str s), .any, .any, .any, (i64 (i : Nat)), .any, .any, .any, .any, .any, .any, .any, .any, .any, .any, .any, .any, .any]) (fun i => σ) (fun i => l.length - i) (fun i => i ≤ l.length ∧ findS l s = (findS (l.drop i) s).map (· + i)) 0 ?_ ?_
  · exact ⟨⟨Nat.zero_le _, by simp⟩, by simp [Wk], rfl⟩
  · rintro i ⟨hi, hit⟩
    refine AW.seq_k fun K4 hK4 => ?_
    refine AW.regl false [9] (by rfl) fun K5 hK5 => ?_ -- region 2
    simp only [go_sem, Nat.reduceAdd, Nat.reduceEqDiff, Nat.reduceLeDiff, true_and, List.length_map, ba_beqL]
    refine hK5 _ _ ?_; try clear hK5 K5
    conv => enter [5]; simp only [setL_cons, setL_nil, List.set_cons_zero, List.set_cons_succ]
    refine AW.cond rfl (fun hc9 => ?_) (fun hc9 => ?_)
    · skip
      have hi1 : i < l.length := by simpa using hc9
      have hx : (l.map str)[i]? = some (str l[i]) := by simp [hi1]
      refine AW.skip ?_
      refine hK4 _ _ ?_; try clear hK4 K4
      refine AW.seq_k fun K6 hK6 => ?_
      refine AW.block ?_
      refine AW.regl false [17] (by rfl) fun K7 hK7 => ?_ -- region 4
      simp only [go_sem, Nat.reduceAdd, Nat.reduceEqDiff, Nat.reduceLeDiff, true_and, List.length_map, ba_beqL, at_row hx]
      refine hK7 _ _ ?_; try clear hK7 K7
      conv => enter [5]; simp only [setL_cons, setL_nil, List.set_cons_zero, List.set_cons_succ]
      refine AW.cond rfl (fun hc17 => ?_) (fun hc17 => ?_)
      · skip
        have heq : l[i] = s := by simpa using hc17
        refine AW.regl false [4] (by rfl) fun K8 hK8 => ?_ -- region 5
        simp only [go_sem, Nat.reduceAdd, Nat.reduceEqDiff, Nat.reduceLeDiff, true_and, List.length_map, ba_beqL]
        refine hK8 _ _ ?_; try clear hK8 K8
        conv => enter [5]; simp only [setL_cons, setL_nil, List.set_cons_zero, List.set_cons_succ]
        refine AW.ret ⟨.inr rfl, _, rfl, by simp, ?_⟩ -- return 1
        rw [show fR l s = (i : Nat) by rw [fR, hit, findS_drop hi1, if_pos heq.symm]; simp]
        exact .keep rfl
      · skip
        have hne : ¬ l[i] = s := by simpa using hc17
        refine AW.skip ?_
        refine hK6 _ _ ?_; try clear hK6 K6
        refine AW.lastl false [5] (by rfl) fun K hK => ?_ -- region 3
        simp only [go_sem, Nat.reduceAdd, Nat.reduceEqDiff, Nat.reduceLeDiff, true_and, List.length_map, ba_beqL]
        refine hK _ _ fun env' hw => ?_
        simp only [setL_cons, setL_nil, List.set_cons_zero, List.set_cons_succ] at hw
        refine ⟨i + 1, by omega, ⟨by omega, ?_⟩, ?_, rfl⟩
        · rw [hit, findS_drop hi1, if_neg (fun e => hne e.symm), Option.map_map]
          congr 1
          funext j
          simp only [Function.comp]
          omega
        refine hw.trans ?_
        simp [Wk, wrap_succ hi1 hl]
    · skip
      have hi1 : i = l.length := by
        have : ¬ i < l.length := by simpa using hc9
        omega
      refine AW.exit ?_
      refine hK2 _ _ ?_; try clear hK2 K2
      refine AW.regl false [4] (by rfl) fun K9 hK9 => ?_ -- region 6
      simp only [go_sem, Nat.reduceAdd, Nat.reduceEqDiff, Nat.reduceLeDiff, true_and, List.length_map, ba_beqL]
      refine hK9 _ _ ?_; try clear hK9 K9
      conv => enter [5]; simp only [setL_cons, setL_nil, List.set_cons_zero, List.set_cons_succ]
      refine AW.ret ⟨.inr rfl, _, rfl, by simp, ?_⟩ -- return 2
      rw [show fR l s = -1 by rw [fR, hit, hi1, List.drop_length]; rfl]
      exact .keep rfl

set_option maxRecDepth 100000 in
theorem rputvar_step (f v : Nat) (hv : v < 18446744073709551616) (hf : f ≤ 9) (ih : 128 ≤ v → APure prog Γ 24 [.val (.int .u64 (v / 128 : Nat))] (str (bs (pvB f (v / 128))))) : APure prog Γ 24 [.val (.int .u64 (v : Nat))] (str (bs (pvB (f + 1) v))) := by
  refine APure.of func24 rfl fun σ => ?_
  simp only [ntmps24, List.length_cons, List.length_nil, Nat.reduceAdd, Nat.reduceSub, List.replicate_succ, List.replicate_zero, List.cons_append, List.nil_append]
  have hm : Int.tmod (v : Int) 128 = ((v % 128 : Nat) : Int) := rfl
  have hd : IntKind.wrap .u64 (Int.tdiv (v : Int) 128) = ((v / 128 : Nat) : Int) := by
    rw [show Int.tdiv (v : Int) 128 = ((v / 128 : Nat) : Int) from rfl]
    exact wrap_u64 (by omega)
  have ha : IntKind.wrap .u8 (((UInt8.ofNat (v % 128)).toNat : Int) + 128) = ((UInt8.ofNat (v % 128 + 128)).toNat : Int) := by
    rw [show (((UInt8.ofNat (v % 128)).toNat : Int) + 128) = ((v % 128 + 128 : Nat) : Int) by simp; omega]
    exact wrap_u8 _
  have hcat := cat_str (a := [UInt8.ofNat (v % 128 + 128)]) (b := pvB f (v / 128)) 9 (by have := pvB_len f (v / 128); simp only [List.length_singleton]; omega)
  refine AW.regl false [2] (by rfl) fun K1 hK1 => ?_ -- region 0
  simp only [go_sem, Nat.reduceAdd, Nat.reduceEqDiff, Nat.reduceLeDiff, true_and, wrap_u8, conv1]
  refine hK1 _ _ ?_; try clear hK1 K1
  conv => enter [5]; simp only [setL_cons, setL_nil, List.set_cons_zero, List.set_cons_succ]
  refine AW.seq_k fun K2 hK2 => ?_
  refine AW.regl false [4] (by rfl) fun K3 hK3 => ?_ -- region 1
  simp only [go_sem, Nat.reduceAdd, Nat.reduceEqDiff, Nat.reduceLeDiff, true_and, wrap_u8, conv1]
  refine hK3 _ _ ?_; try clear hK3 K3
  conv => enter [5]; simp only [setL_cons, setL_nil, List.set_cons_zero, List.set_cons_succ]
  refine AW.cond rfl (fun hc4 => ?_) (fun hc4 => ?_)
  · skip
    have hlt : v < 128 := by simp only [decide_eq_true_eq] at hc4; omega
    refine AW.regl false [2] (by rfl) fun K4 hK4 => ?_ -- region 2
    simp only [go_sem, Nat.reduceAdd, Nat.reduceEqDiff, Nat.reduceLeDiff, true_and, wrap_u8, conv1]
    refine hK4 _ _ ?_; try clear hK4 K4
    conv => enter [5]; simp only [setL_cons, setL_nil, List.set_cons_zero, List.set_cons_succ]
    refine AW.ret ⟨.inr rfl, _, rfl, by simp, ?_⟩ -- return 1
    rw [show pvB (f + 1) v = [UInt8.ofNat v] by rw [pvB, if_pos hlt]]
    exact .keep rfl
  · skip
    have hlt : ¬ v < 128 := by simp only [decide_eq_false_iff_not] at hc4; omega
    refine AW.skip ?_
    refine hK2 _ _ ?_; try clear hK2 K2
    refine AW.regdl mixed false [2] (by kernel_rfl) (by rfl) fun K5 hK5 => ?_ -- region 3
    simp only [go_sem, Nat.reduceAdd, Nat.reduceEqDiff, Nat.reduceLeDiff, true_and, wrap_u8, conv1, bin_rem (show (128 : Int) ≠ 0 by decide), hm, ha, bin_quo (show (128 : Int) ≠ 0 by decide), hd, hcat]
    refine qC.of en24 ((ih (by omega)).on _).here (by rfl) ?_
    simp only [go_sem, Nat.reduceAdd, Nat.reduceEqDiff, Nat.reduceLeDiff, true_and, wrap_u8, conv1, bin_rem (show (128 : Int) ≠ 0 by decide), hm, ha, bin_quo (show (128 : Int) ≠ 0 by decide), hd, hcat]
    refine hK5 _ ?_; try clear hK5 K5
    conv => enter [5]; simp only [setL_cons, setL_nil, List.set_cons_zero, List.set_cons_succ]
    refine AW.ret ⟨.inr rfl, _, rfl, by simp, ?_⟩ -- return 2
    rw [show pvB (f + 1) v = [UInt8.ofNat (v % 128 + 128)] ++ pvB f (v / 128) by rw [pvB, if_neg hlt]; rfl]
    exact .keep rfl
end Go.Proofs.Try

