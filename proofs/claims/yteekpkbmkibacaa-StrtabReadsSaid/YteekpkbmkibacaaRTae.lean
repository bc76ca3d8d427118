import Derived.Test.YteekpkbmkibacaaRTad
/-! Bytes that are appended to. -/
namespace Go.Proofs.Try
set_option linter.unusedSimpArgs false
set_option linter.unusedVariables false
open Go Go.Proofs.Ev
variable {Γ : List (Nat × List AV)}
theorem or_all : ∀ n : Nat, n < 256 → bits .or .u8 (n : Int) 128 = ((n % 128 + 128 : Nat) : Int) := by decide +kernel
theorem bin_or128 (T : TypeId) (v : Nat) : aBin prog .or T (.val (.int .u8 ((UInt8.ofNat v).toNat : Int))) (.val (.int .u8 128)) = some (.val (.int .u8 ((UInt8.ofNat (v % 128 + 128)).toNat : Int))) := by
  have h1 := or_all (UInt8.ofNat v).toNat (by simp; omega)
  have h2 : (UInt8.ofNat v).toNat % 128 + 128 = (UInt8.ofNat (v % 128 + 128)).toNat := by simp; omega
  rw [h2] at h1
  simp [aBin, aInt]
  exact h1
theorem bin_shr7 (T : TypeId) (v : Nat) (k : IntKind) : aBin prog .shr T (.val (.int .u64 (v : Int))) (.val (.int k 7)) = some (.val (.int .u64 ((v / 128 : Nat) : Int))) := by
  have hb : IntKind.bits .u64 = 64 := rfl
  have : (v : Int).fdiv (2 ^ (min 7 64)) = ((v / 128 : Nat) : Int) := by
    show Int.fdiv (v : Int) 128 = _
    rw [Int.fdiv_eq_ediv_of_nonneg _ (by decide)]
    rfl
  simp [aBin, aShift, hb]
  exact this
def bys (l : List UInt8) : List AV := l.map byteAV
theorem bys_app (a b : List UInt8) : bys (a ++ b) = bys a ++ bys b := by simp [bys]
theorem bys_len (a : List UInt8) : (bys a).length = a.length := by simp [bys]
theorem get_set {σ : Sto} {k : Nat} {x : AO} {c : AO} (h : σ[k]? = some c) : (σ.set k x)[k]? = some x := by
  have := (List.getElem?_eq_some_iff.1 h).1
  simp [this]
theorem app1 (σ : Sto) {k : Nat} {c : AO} (hk : σ[k]? = some c) (nl : Bool) (y : List UInt8) (hy : y.length ≤ 1099511627776) (b : UInt8) :
    appAt (σ.set k (.cap y.length 1)) nl 1 1 (bys y) k [.val (.int .u8 (b.toNat : Int))] (some (.cap y.length 1)) = some (.slo nl 1 (bys (y ++ [b])) k, σ.set k (.cap (y ++ [b]).length 1)) := by
  have := appAt_one (σ.set k (.cap y.length 1)) nl 1 1 (bys y) k y.length (byteAV b) (by rw [bys_len]) (by
    simp only [fits, bys_len, Bool.and_eq_true, decide_eq_true_eq]
    omega)
  rw [bys_len, List.set_set] at this
  rw [bys_app, List.length_append]
  exact this
theorem appn (σ : Sto) {k : Nat} {c : AO} (hk : σ[k]? = some c) (nl : Bool) (y z : List UInt8) (hy : y.length + z.length ≤ 1099511627776) :
    appAt (σ.set k (.cap y.length 1)) nl 1 1 (bys y) k (bys z) (some (.cap y.length 1)) = some (.slo nl 1 (bys (y ++ z)) k, σ.set k (.cap (y ++ z).length 1)) := by
  have hf : fits ((bys y).length + (bys z).length) 1 = true := by
    simp only [fits, bys_len, Bool.and_eq_true, decide_eq_true_eq]
    omega
  unfold appAt
  cases z with
  | nil =>
    simp only [List.length_nil, Nat.add_zero, bys_len] at hf
    simp [bys, hf]
  | cons a z =>
    simp only [bys_len] at hf
    simp only [bys_len, hf, List.set_set, bys_app, List.length_append]
    simp [bys]
theorem src_str (s : ByteArray) : aSrcE prog 9 1 (str s) = some (bys s.data.toList) := by
  have : prog.underlying 9 = some .string := underlying9
  simp only [aSrcE, this, if_true]
  rfl
theorem pvB_lt {f v : Nat} (h : v < 128) : pvB f v = [UInt8.ofNat v] := by
  cases f with
  | zero => rfl
  | succ f => simp [pvB, h]
theorem pt_data (s : ByteArray) : (pt s).data.toList = pv s.size ++ s.data.toList := by simp [pt, bs]
set_option maxRecDepth 100000 in
theorem putvar_calls (σ : Sto) (k : Nat) (nl : Bool) (x : List UInt8) (v0 : Nat) (hk : σ[k]? = some (.cap x.length 1)) (hv : v0 < 18446744073709551616) (hx : x.length ≤ 1073741824) : ACalls prog Γ 22 [.slo nl 1 (bys x) k, .val (.int .u64 (v0 : Nat))] σ (fun r σ' => r = .slo nl 1 (bys (x ++ pv v0)) k ∧ σ' = σ.set k (.cap (x ++ pv v0).length 1)) := by
  refine ACalls.of func22 rfl ?_
  simp only [ntmps22, List.length_cons, List.length_nil, Nat.reduceAdd, Nat.reduceSub, List.replicate_succ, List.replicate_zero, List.cons_append, List.nil_append]
  refine AW.regl false [4] (by rfl) fun K1 hK1 => ?_ -- region 0
  simp only [go_sem, Nat.reduceAdd, Nat.reduceEqDiff, Nat.reduceLeDiff, true_and, wrap_u8, bin_or128, bin_shr7]
  refine hK1 _ _ ?_; try clear hK1 K1
  conv => enter [5]; simp only [setL_cons, setL_nil, List.set_cons_zero, List.set_cons_succ]
  refine AW.seq_k fun K2 hK2 => ?_
  refine AW.block ?_
  refine AW.loop_wk (α := Nat × Nat × List UInt8) (fun z => [(.slo nl 1 (bys z.2.2) k), (.val (.int .u64 (z.2.1 : Nat))), .any, .any, .any, .any, .any, .any, .any, .any, .any, .any, .any, .any, .any, .any, .any, .any, .any, .any]) (fun z => σ.set k (.cap z.2.2.length 1)) (fun z => z.1) (fun z => z.2.2 ++ pvB z.1 z.2.1 = x ++ pv v0 ∧ z.2.1 < 128 ^ (z.1 + 1) ∧ z.2.1 < 18446744073709551616 ∧ z.1 ≤ 9 ∧ z.2.2.length + z.1 ≤ x.length + 9) (9, v0, x) ?_ ?_
  · exact ⟨⟨rfl, by show v0 < 128 ^ (9 + 1); omega, hv, Nat.le_refl _, Nat.le_refl _⟩, by simp [Wk], set_self hk⟩
  · rintro ⟨f, v, y⟩ ⟨hi1, hi2, hi3, hi4, hi5⟩
    simp only at hi1 hi2 hi3 hi4 hi5 ⊢
    have hget := get_set (x := .cap y.length 1) hk
    refine AW.seq_k fun K3 hK3 => ?_
    refine AW.regl false [6] (by rfl) fun K4 hK4 => ?_ -- region 1
    simp only [go_sem, Nat.reduceAdd, Nat.reduceEqDiff, Nat.reduceLeDiff, true_and, wrap_u8, bin_or128, bin_shr7]
    refine hK4 _ _ ?_; try clear hK4 K4
    conv => enter [5]; simp only [setL_cons, setL_nil, List.set_cons_zero, List.set_cons_succ]
    refine AW.cond rfl (fun hc6 => ?_) (fun hc6 => ?_)
    · skip
      have hge : ¬ v < 128 := by simp only [decide_eq_true_eq] at hc6; omega
      refine AW.skip ?_
      refine hK3 _ _ ?_; try clear hK3 K3
      refine AW.block ?_
      refine AW.regl false [0] (by rfl) fun K5 hK5 => ?_ -- region 2
      simp only [go_sem, Nat.reduceAdd, Nat.reduceEqDiff, Nat.reduceLeDiff, true_and, wrap_u8, bin_or128, bin_shr7, row1_25 _ (.val (.int .u8 ((UInt8.ofNat (v % 128 + 128)).toNat : Int))) rfl rfl, hget, app1 σ hk nl y (by omega) (UInt8.ofNat (v % 128 + 128))]
      refine hK5 _ _ ?_; try clear hK5 K5
      conv => enter [5]; simp only [setL_cons, setL_nil, List.set_cons_zero, List.set_cons_succ]
      refine AW.lastl false [1] (by rfl) fun K hK => ?_ -- region 3
      simp only [go_sem, Nat.reduceAdd, Nat.reduceEqDiff, Nat.reduceLeDiff, true_and, wrap_u8, bin_or128, bin_shr7]
      refine hK _ _ fun env' hw => ?_
      simp only [setL_cons, setL_nil, List.set_cons_zero, List.set_cons_succ] at hw
      have hf1 : f ≠ 0 := fun e => by
        rw [e] at hi2
        simp at hi2
        omega
      obtain ⟨g, rfl⟩ : ∃ g, f = g + 1 := ⟨f - 1, by omega⟩
      refine ⟨(g, v / 128, y ++ [UInt8.ofNat (v % 128 + 128)]), by show g < g + 1; omega, ⟨?_, ?_, by show v / 128 < _; omega, by show g ≤ 9; omega, by simp only [List.length_append, List.length_singleton]; omega⟩, ?_, by simp⟩
      · show (y ++ [UInt8.ofNat (v % 128 + 128)]) ++ pvB g (v / 128) = _
        rw [← hi1, List.append_assoc]
        simp only [pvB, if_neg hge, List.singleton_append]
      · show v / 128 < 128 ^ (g + 1)
        rw [Nat.pow_succ] at hi2
        exact Nat.div_lt_of_lt_mul (by rw [Nat.mul_comm]; exact hi2)
      refine hw.trans ?_
      simp [Wk]
    · skip
      have hlt : v < 128 := by simp only [decide_eq_false_iff_not] at hc6; omega
      refine AW.exit ?_
      refine hK2 _ _ ?_; try clear hK2 K2
      refine AW.regl false [4] (by rfl) fun K6 hK6 => ?_ -- region 4
      simp only [go_sem, Nat.reduceAdd, Nat.reduceEqDiff, Nat.reduceLeDiff, true_and, wrap_u8, bin_or128, bin_shr7, row1_25 _ (.val (.int .u8 ((UInt8.ofNat v).toNat : Int))) rfl rfl, hget, app1 σ hk nl y (by omega) (UInt8.ofNat v)]
      refine hK6 _ _ ?_; try clear hK6 K6
      conv => enter [5]; simp only [setL_cons, setL_nil, List.set_cons_zero, List.set_cons_succ]
      have hfin : y ++ [UInt8.ofNat v] = x ++ pv v0 := by rw [← hi1, pvB_lt hlt]
      rw [hfin]
      exact AW.ret ⟨.inr rfl, _, rfl, rfl, by rw [← hfin]; simp⟩
end Go.Proofs.Try

